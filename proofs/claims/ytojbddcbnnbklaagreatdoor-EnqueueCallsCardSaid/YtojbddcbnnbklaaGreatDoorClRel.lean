/- Release: the walk. -/
import Derived.Test.YtojbddcbnnbklaaGreatDoorClReq
import Derived.Lib.QuietBelow
import Derived.Deep.DeepCutAuto
namespace Go.Proofs.YtojbddcbnnbklaaGreatDoor
open Go.RowKit P43 Go.Sort
attribute [local go_sem] ByteArray.mk_append_mk ByteArray.extract_mk mk_index

/-- What Release and Share leave. -/
def LoPost (F : Nat → Prop) (w : World) (B p : Nat) (r : T × List Int × Int) : Ending → World → Prop :=
  TPost F w B p r.1 fun e w' => ∃ v, e = .returned (.tuple #[v, .int .i64 r.2.2]) ∧ OwnI w' w.heap.size v r.2.1
theorem relAsk (b : Nat) (u : Int) (w : World) (hx : Blk w b 3 #[.int .i64 u]) : Asks 40 b (fun l => decide (l.1.id = u)) w := by
  refine ⟨fun args W => by kernel_rfl, fun l W hW => ?_⟩
  have HX := Lib.hid (hx.below hW)
  clear hx hW
  unfold cv
  go_enter Tryz.func40, Tryz.ntmps40
  go_upto_region 1 with (fail)
  obtain ⟨w2, p, e1, e2, hb, h1⟩ := boxes1 W 76 (ca l)
  unfold ca at e1
  rw [e1, e2]
  have hc := (HX.out.below hb).cell 0
  have hc2 := h1.cell 0
  have HB := Lib.hid hb
  clear e1 e2 hb h1
  simp [ca] at hc hc2
  go_wp2
  go_ret
  exact ⟨retBool (by rw [Bool.eq_iff_iff]; simp), HB.out⟩
theorem relAsksG {g : Nat} {u : Int} {w : World} (hb : Blk w g 3 #[.int .i64 u]) {row : Option Nat} (hr : row ≠ some g) : AsksG 40 g (fun l => decide (l.1.id = u)) w row :=
  ⟨fun args W => (relAsk g u w hb).known args W, fun l W hW => (relAsk g u W (hb.grown hW (Ne.symm hr))).ask l W (Below.refl _ _)⟩
theorem kept_dropM (q : List Cm) (u : Int) : (kept (fun l : Cm => decide (l.1.id = u)) q).map (·.1) = drop (q.map (·.1)) u := by
  unfold kept drop
  rw [List.filter_map]
  congr 1
  refine List.filter_congr fun x _ => ?_
  simp
theorem kept_sub (f : Cm → Bool) (q : List Cm) : (kept f q).Sublist q := List.filter_sublist
/-- Both rows struck, both fields written. -/
theorem Tab.both {w w1 w2 w3 wx : World} {B p : Nat} {hs ws hs' ws' : List Cm} {vh vw v1 v2 : Value} (m : Tab w B p hs ws vh vw) (hw1 : Below w.heap.size w w1) (g1 : w1.grownBy w2 vh.ownBlock) (o1 : OwnK w2 B tC v1 hs') (e1 : v1.ownBlock = vh.ownBlock)
    (g2 : w2.grownBy w3 vw.ownBlock) (o2 : OwnK w3 B tC v2 ws') (e2 : v2.ownBlock = vw.ownBlock) (hx : wx.heap = ((w3.setCell ⟨p, 0, none⟩ v1).setCell ⟨p, 1, none⟩ v2).heap) (ho : wx.os = w3.os ∧ wx.tape = w3.tape ∧ wx.output = w3.output) :
    Tab wx B p hs' ws' v1 v2 ∧ Moved p NoM w wx := by
  have hp := m.box.lt
  obtain ⟨n1, n2⟩ := m.box_ne
  have hb1 : Blk w1 p tT #[vh, vw] := m.box.below hw1
  have hb3 : Blk w3 p tT #[vh, vw] := (hb1.grown g1 (Ne.symm n1)).grown g2 (Ne.symm n2)
  have hbx : Blk wx p tT #[v1, v2] := by
    have := (hb3.put 0 v1).put 1 v2
    unfold Blk at this ⊢
    rw [hx]
    simpa using this
  have oth : ∀ k, k ≠ p → wx.heap[k]? = w3.heap[k]? := fun k hk => by
    rw [hx, Below.heap_setCell _ _ _ _ hk, Below.heap_setCell _ _ _ _ hk]
  have hsz : wx.heap.size = w3.heap.size := by rw [hx]; simp
  have key : ∀ {v : Value} {ls : List Cm}, OwnK w3 B tC v ls → v.ownBlock ≠ some p → OwnK wx B tC v ls := by
    intro v ls h hv
    refine ⟨h.1, ?_⟩
    rcases h.2 with h1 | ⟨g, cap, cur, rfl, a2, a3, a4⟩
    · exact .inl h1
    · exact .inr ⟨g, cap, cur, rfl, a2, (oth g (fun e => hv (by simp [Value.ownBlock, e]))).trans a3, a4⟩
  have o1' : OwnK w3 B tC v1 hs' := o1.kept g2 (by rw [e1]; exact m.apart)
  have ht : Tab wx B p hs' ws' v1 v2 := ⟨hbx, m.base, key o1' (by rw [e1]; exact n1), key o2 (by rw [e2]; exact n2), by rw [e1, e2]; exact m.apart⟩
  have hle : w.heap.size ≤ w3.heap.size := Nat.le_trans hw1.size (Nat.le_trans g1.size g2.size)
  refine ⟨ht, ho.1.trans (g2.os.trans (g1.os.trans hw1.os)), ho.2.1.trans (g2.tape.trans (g1.tape.trans hw1.tape)), ho.2.2.trans (g2.output.trans (g1.output.trans hw1.output)), by rw [hsz]; exact hle, fun k hk hf _ => ?_, fun k hk => ?_⟩
  · have hkp : k ≠ p := fun e => hf (.inl e)
    have k1 : some k ≠ vh.ownBlock := fun e => hf (m.foot.2 (.inr (.inl e.symm)))
    have k2 : some k ≠ vw.ownBlock := fun e => hf (m.foot.2 (.inr (.inr e.symm)))
    have hk1 := Nat.lt_of_lt_of_le hk hw1.size
    rw [oth k hkp, g2.block k (Nat.lt_of_lt_of_le hk1 g1.size) k2, g1.block k hk1 k1, hw1.block k hk]
  · rcases ht.foot.1 hk with h | h | h
    · exact .inl (.inl h)
    · exact .inl (m.foot.2 (.inr (.inl (e1 ▸ h))))
    · exact .inl (m.foot.2 (.inr (.inr (e2 ▸ h))))
theorem Tab.both' {w0 w w1 w2 w3 wx : World} {B p : Nat} {hs ws hs' ws' : List Cm} {vh vw v1 v2 : Value} (m : Tab w B p hs ws vh vw) (h0 : Below w0.heap.size w0 w) (m0 : Tab w0 B p hs ws vh vw) (hw1 : Below w.heap.size w w1) (g1 : w1.grownBy w2 vh.ownBlock) (o1 : OwnK w2 B tC v1 hs') (e1 : v1.ownBlock = vh.ownBlock)
    (g2 : w2.grownBy w3 vw.ownBlock) (o2 : OwnK w3 B tC v2 ws') (e2 : v2.ownBlock = vw.ownBlock) (hx : wx.heap = ((w3.setCell ⟨p, 0, none⟩ v1).setCell ⟨p, 1, none⟩ v2).heap) (ho : wx.os = w3.os ∧ wx.tape = w3.tape ∧ wx.output = w3.output) :
    Tab wx B p hs' ws' v1 v2 ∧ Moved p NoM w0 wx := by
  obtain ⟨a, b⟩ := m.both hw1 g1 o1 e1 g2 o2 e2 hx ho
  exact ⟨a, (Moved.of_below h0 m0.box.lt).trans b⟩
theorem look_fst (hs ws : List Cm) : P43.look (fstT hs ws) = (fstT (lookM hs [] ws []).1.hs (lookM hs [] ws []).1.ws, (lookM hs [] ws []).2) := (lookM_fst ws hs [] []).symm
theorem OwnI.base {w : World} {B C : Nat} {v : Value} {xs : List Int} (h : OwnI w B v xs) (hc : C ≤ B) : OwnI w C v xs := by
  refine ⟨h.1, ?_⟩
  rcases h.2 with h1 | ⟨g, cap, cur, rfl, a2, a3⟩
  · exact .inl h1
  · exact .inr ⟨g, cap, cur, rfl, Nat.le_trans hc a2, a3⟩
/-- Behind look. -/
theorem lo_done {F : Nat → Prop} {M : Nat → Prop} {w w1 w' : World} {B p : Nat} {hs ws hs1 ws1 : List Cm} {e : Ending} (hF : ∀ k, F k ↔ (Foot w p k ∨ ∃ x ∈ hs ++ ws, x.2 = k)) (mv : Moved p M w w1) (hM : ∀ k, M k → ∃ x ∈ hs ++ ws, x.2 = k)
    (hx : ∀ x ∈ hs1 ++ ws1, ∃ y ∈ hs ++ ws, y.2 = x.2) (h : LPost w1 B p (lookM hs1 [] ws1 []).1 (lookM hs1 [] ws1 []).2 e w') :
    ∃ v, e = .returned v ∧ OwnI w' w.heap.size v (P43.look (fstT hs1 ws1)).2 ∧ ∃ F', TT w' B p (P43.look (fstT hs1 ws1)).1 F' ∧ Chg F F' w w' := by
  obtain ⟨v, vh, vw, rfl, ho, m', mv', _⟩ := h
  rw [look_fst]
  refine ⟨v, rfl, ho.base mv.size, TT.of_moved hF m' (mv.trans (mv'.wide (fun _ h => h.elim))) hM (fun x hx' => .inl (hx x ?_))⟩
  have hp := lookM_perm ws1 hs1 [] []
  simpa using hp.subset hx'
set_option maxRecDepth 100000 in
set_option maxHeartbeats 4000000 in
theorem clRelease (B p : Nat) (t : T) (F : Nat → Prop) (o : Int) (w : World) (m : TT w B p t F) (hl : t.hs.length + t.ws.length ≤ 100000) :
    Calls Tryz.prog 24 #[.pointer (some ⟨p, 0, none⟩), .int .i64 o] w (LoPost F w B p (releaseP t o)) := by
  obtain ⟨hs, ws, vh, vw, mT, rfl, hF⟩ := m
  have HF := Lib.hid hF
  have HMT := Lib.hid mT
  have hl1 : hs.length + ws.length ≤ 100000 := by simpa [fstT] using hl
  clear hF mT hl
  go_enter Tryz.func24, Tryz.ntmps24
  go_upto_region 1 with (fail)
  obtain ⟨w1, g, e1, e2, hb1, hg1⟩ := boxes1 w 3 #[.int .i64 o]
  rw [e1, e2]
  have HG := Lib.hid hg1
  have HGE := Lib.hid e2
  have HB1 := Lib.hid hb1
  have HM1 := Lib.hid (HMT.out.below hb1)
  have HAH := Lib.hid (show ∀ d os, ClsAt (grow (redrawn w1 d) os) none 0 [] → True from fun _ _ _ => trivial)
  clear e1 e2 hb1 hg1 HAH
  obtain ⟨Ah, ch, hvh, hh⟩ := HM1.out.clsH
  obtain ⟨Aw, cw, hvw, hw⟩ := HM1.out.clsW
  have HH := Lib.hid hh
  have HW := Lib.hid hw
  have HVH := Lib.hid hvh
  have HVW := Lib.hid hvw
  clear hh hw
  have hany1 := fIdx_any (fun l : Cm => decide (l.1.id = o)) hs
  have hany2 := fIdx_any (fun l : Cm => decide (l.1.id = o)) ws
  obtain ⟨j1, hj1⟩ : ∃ j1, fIdx (fun l : Cm => decide (l.1.id = o)) hs = j1 := ⟨_, rfl⟩
  obtain ⟨j2, hj2⟩ : ∃ j2, fIdx (fun l : Cm => decide (l.1.id = o)) ws = j2 := ⟨_, rfl⟩
  rw [hj1] at hany1
  rw [hj2] at hany2
  have HIT := Lib.hid (@inT_fst hs ws o)
  rw [← hany1, ← hany2] at HIT
  have F1 := Lib.hid (show ∀ d os, Calls Tryz.prog 34 #[.slice Ah hs.length ch, .int .i64 o] (grow (redrawn w1 d) os) fun e w' => e = .returned (.int .i64 j1) ∧ Below (grow (redrawn w1 d) os).heap.size (grow (redrawn w1 d) os) w' from fun d os => by
    have := clFind o Ah hs.length ch hs (grow (redrawn w1 d) os) (HH.out.at_.below (below_regrown w1 d os)) (by omega)
    rwa [hj1] at this)
  have F2 := Lib.hid (show ∀ d os, Calls Tryz.prog 34 #[.slice Aw ws.length cw, .int .i64 o] (grow (redrawn w1 d) os) fun e w' => e = .returned (.int .i64 j2) ∧ Below (grow (redrawn w1 d) os).heap.size (grow (redrawn w1 d) os) w' from fun d os => by
    have := clFind o Aw ws.length cw ws (grow (redrawn w1 d) os) (HW.out.at_.below (below_regrown w1 d os)) (by omega)
    rwa [hj2] at this)
  have c0 := HM1.out.box.cell 0
  have c1 := HM1.out.box.cell 1
  have cg := HG.out.cell 0
  simp at c0 c1 cg
  rw [hvh] at c0
  rw [hvw] at c1
  have hc0 := cell_regrown c0
  have hc1 := cell_regrown c1
  have hcg := cell_regrown cg
  clear c0 c1 cg hany1 hany2 hj1 hj2 hvh hvw
  go_cut [22] (fun v wx => v = .bool (decide (j1 < 0) && decide (j2 < 0)) ∧ Below w1.heap.size w1 wx)
  case first =>
    -- FAST(
    by_cases h1 : j1 < 0
    all_goals
      by_cases h2 : j2 < 0
      all_goals
        refine wp_region_quiet_below (by kernel_rfl) (by kernel_rfl) ?_
        repeat (quiet_step ((first | (go_at_call 34; refine Calls.regrown_of (F1.out _ _)) | (go_at_call 34; refine Calls.regrown_of (F2.out _ _)))))
        refine wpQuiet_nil ?_
        intro w7 hw7
        obtain ⟨pp, rfl⟩ := hw7
        have HBR := Lib.hid (below_regrown w1 pp.d pp.os)
        generalize grow (redrawn w1 pp.d) pp.os = w7 at HBR ⊢
        go_wp2
        go_meet
        case rel => exact ⟨by simp [h1, h2], HBR.out⟩
    -- FAST)
  case rest =>
    obtain ⟨rfl, hbw⟩ := hcut
    have HMC := Lib.hid (HM1.out.below hbw)
    have HGC := Lib.hid (HG.out.below hbw)
    have HBC := Lib.hid (HB1.out.trans (hbw.mono HB1.out.size))
    have HBW := Lib.hid hbw
    clear hc0 hc1 hcg F1 F2 hbw
    by_cases h12 : j1 < 0 ∧ j2 < 0
    · have h12b : (decide (j1 < 0) && decide (j2 < 0)) = true := by simpa using h12
      rw [h12b]
      have hrp : releaseP (fstT hs ws) o = (fstT hs ws, [], 6) := by
        unfold releaseP
        rw [HIT.out, if_neg (by simp; omega)]
      clear h12b h12
      go_wp2
      go_ret2
      rw [hrp]
      exact TPost.same ⟨hs, ws, vh, vw, HMT.out, rfl, HF.out⟩ HBC.out ⟨_, rfl, OwnI.nil _ _⟩
    · have h12b : (decide (j1 < 0) && decide (j2 < 0)) = false := by
        simp only [Bool.and_eq_false_iff, decide_eq_false_iff_not]
        omega
      rw [h12b]
      have HRP := Lib.hid (show releaseP (fstT hs ws) o = ((release (fstT hs ws) o).1, (release (fstT hs ws) o).2, 0) from by
        unfold releaseP
        rw [HIT.out, if_pos (by simp; omega)])
      have hmf : ∀ (fn : Fn) (first cap : Array Value) (w : World), (Instr.makeFunc fn first cap).run Tryz.prog w = .ok (.func fn first cap) w := fun _ _ _ _ => rfl
      clear h12b h12 HH HW HVH HVW HIT
      go_upto_region 4 with (fail)
      have hd0 := HMC.out.box.cell 0
      have hd1 := HMC.out.box.cell 1
      have hf0 := HMC.out.box.frozen 0
      have hf1 := HMC.out.box.frozen 1
      simp at hd0 hd1
      have HNE := Lib.hid HMC.out.box_ne
      have hgp : p ≠ g := fun e => by have h1 := HMT.out.box.lt; have h2 := HGE.out; omega
      have hvg : vh.ownBlock ≠ some g ∧ vw.ownBlock ≠ some g := ⟨fun e => by have h1 := (HMT.out.held.lt g e).2; have h2 := HGE.out; omega, fun e => by have h1 := (HMT.out.wait.lt g e).2; have h2 := HGE.out; omega⟩
      have HVG := Lib.hid hvg
      have HAP := Lib.hid (show vw.ownBlock = none ∨ vw.ownBlock ≠ vh.ownBlock from by
        rcases HMC.out.apart with e | e
        · by_cases h0 : vw.ownBlock = none
          · exact .inl h0
          · exact .inr (by rw [e]; exact h0)
        · exact .inr (Ne.symm e))
      clear hmf hvg hgp HM1
      go_cut [31, 37] (fun _ _ wx => ∃ v1 v2, Tab wx B p (kept (fun l : Cm => decide (l.1.id = o)) hs) (kept (fun l : Cm => decide (l.1.id = o)) ws) v1 v2 ∧ Moved p NoM w wx)
      case first =>
        go_region_with (first | (go_at_call 41; ((refine (clDeleteFunc _ _ (fun l => decide (l.1.id = o)) B vw ws w2 ((HMC.out.wait.drew).kept HG2.out HAP.out) (by omega) (relAsksG ((HGC.out.drew).grown HG2.out (Ne.symm HVG.out.1)) HVG.out.2)).mono ?_); rintro e w3 ⟨v3, rfl, ho3, hg3, he3⟩; obtain ⟨A3, c3, hv3, -, -⟩ := ho3.cells; subst hv3; have HO3 := Lib.hid ho3; have HG3 := Lib.hid hg3; have HE3 := Lib.hid he3; have hb3 := HB2.out.grown hg3 (Ne.symm HNE.out.2); have k30 := hb3.cell 0; have k31 := hb3.cell 1; have k3f0 := hb3.frozen 0; have k3f1 := hb3.frozen 1; simp at k30 k31; clear ho3 hg3 he3 hb3)) | (go_at_call 41; ((refine (clDeleteFunc _ _ (fun l => decide (l.1.id = o)) B vh hs wc.drew (HMC.out.held.drew) (by omega) (relAsksG (HGC.out.drew) HVG.out.1)).mono ?_); rintro e w2 ⟨v2, rfl, ho2, hg2, he2⟩; obtain ⟨A2, c2, hv2, -, -⟩ := ho2.cells; subst hv2; have HO2 := Lib.hid ho2; have HG2 := Lib.hid hg2; have HE2 := Lib.hid he2; have hb2 := (HMC.out.box.drew).grown hg2 (Ne.symm HNE.out.1); have k20 := hb2.cell 0; have k21 := hb2.cell 1; have k2f0 := hb2.frozen 0; have k2f1 := hb2.frozen 1; simp at k20 k21; have HB2 := Lib.hid hb2; clear ho2 hg2 he2 hb2)))
        all_goals
          go_wp2
          go_meet
          case rel => exact ⟨_, _, HMC.out.toTab.both' HBC.out HMT.out.toTab ((Below.refl _ wc).drew) HG2.out HO2.out HE2.out HG3.out HO3.out HE3.out rfl ⟨rfl, rfl, rfl⟩⟩
      case rest =>
        obtain ⟨v1, v2, ht, hv⟩ := hcut
        have HV := Lib.hid hv
        have HK := Lib.hid (HMT.out.maps.moved HMT.out.toTab hv (fun _ _ h => h))
        have HT := Lib.hid (show Tbl wc B p (kept (fun l : Cm => decide (l.1.id = o)) hs) (kept (fun l : Cm => decide (l.1.id = o)) ws) v1 v2 from ⟨ht, HK.out.sub ((kept_sub _ _).append (kept_sub _ _))⟩)
        have hk1 : (kept (fun l : Cm => decide (l.1.id = o)) hs).length ≤ hs.length := (kept_sub _ _).length_le
        have hk2 : (kept (fun l : Cm => decide (l.1.id = o)) ws).length ≤ ws.length := (kept_sub _ _).length_le
        clear ht hv hd0 hd1 hf0 hf1
        go_wp2_with fail
        refine (clLook B p _ _ v1 v2 wc HT.out (by omega)).mono ?_
        rintro e w5 h5
        obtain ⟨v, rfl, ho5, ht5⟩ := lo_done HF.out HV.out (fun _ h => h.elim) (fun x hx => ⟨x, ((kept_sub _ _).append (kept_sub _ _)).subset hx, rfl⟩) h5
        have HO5 := Lib.hid ho5
        have HT5 := Lib.hid ht5
        clear h5 ho5 ht5
        go_wp2
        go_ret2
        have e9 : release (fstT hs ws) o = P43.look (fstT (kept (fun l : Cm => decide (l.1.id = o)) hs) (kept (fun l : Cm => decide (l.1.id = o)) ws)) := by
          unfold release fstT
          rw [kept_dropM, kept_dropM]
        rw [HRP.out, e9]
        exact ⟨⟨_, rfl, HO5.out⟩, HT5.out⟩
end Go.Proofs.YtojbddcbnnbklaaGreatDoor
