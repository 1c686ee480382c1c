/- Release: the walk. Share: the walk. Held: the names that an owner holds, sorted. Holders: who holds a name; slices.Sort of a row of numbers of the call's own. Owners and Waiting of a table as the plain law sees it. -/
import Derived.Test.YtjklhiifjnmedaaGreatDoorLkCancel
import Derived.Test.YtjklhiifjnmedaaGreatDoorNmJ
import Derived.Lib.QuietBelow
import Derived.Deep.DeepCutAuto
import Derived.Test.YtjklhiifjnmedaaGreatDoorNmI
import Derived.Test.YtjklhiifjnmedaaGreatDoorNmA
import Derived.Sort.OwnSortedInts
import Derived.Test.YtjklhiifjnmedaaGreatDoorNmE
namespace Go.Proofs.YtjklhiifjnmedaaGreatDoor
open Go.RowKit P43 Go.Sort
attribute [local go_sem] ByteArray.mk_append_mk ByteArray.extract_mk mk_index

/-- What Release and Share leave. -/
def LoPost (F : Nat → Prop) (w : World) (B p : Nat) (r : T × List Int × Int) : Ending → World → Prop :=
  TPost F w B p r.1 fun e w' => ∃ v, e = .returned (.tuple #[v, .int .i64 r.2.2]) ∧ OwnI w' w.heap.size v r.2.1
theorem relAsk (b : Nat) (u : Int) (w : World) (hx : Blk w b 3 #[.int .i64 u]) : AsksT 60 b (fun l => decide (l.1.id = u)) w := by
  refine ⟨fun args W => by kernel_rfl, fun l W hW => ?_⟩
  have HX := Lib.hid (hx.below hW)
  clear hx hW
  unfold cv
  go_enter Tryz.func60, Tryz.ntmps60
  go_upto_region 1 with (fail)
  obtain ⟨w2, p, e1, e2, hb, h1⟩ := boxes1 W 61 (ca l)
  unfold ca at e1
  rw [e1, e2]
  have hc := (HX.out.below hb).cell 0
  have hc2 := h1.cell 0
  have HB := Lib.hid hb
  clear e1 e2 hb h1
  simp [ca] at hc hc2
  go_wp2
  go_ret
  exact ⟨retBool (by rw [Bool.eq_iff_iff]; simp), HB.out⟩
theorem relAsksG {g : Nat} {u : Int} {w : World} (hb : Blk w g 3 #[.int .i64 u]) {row : Option Nat} (hr : row ≠ some g) : AsksGT 60 g (fun l => decide (l.1.id = u)) w row :=
  ⟨fun args W => (relAsk g u w hb).known args W, fun l W hW => (relAsk g u W (hb.grown hW (Ne.symm hr))).ask l W (Below.refl _ _)⟩
theorem kept_dropM (q : List Cm) (u : Int) : (keptT (fun l : Cm => decide (l.1.id = u)) q).map (·.1) = drop (q.map (·.1)) u := by
  unfold keptT drop
  rw [List.filter_map]
  congr 1
  refine List.filter_congr fun x _ => ?_
  simp
theorem kept_sub (f : Cm → Bool) (q : List Cm) : (keptT f q).Sublist q := List.filter_sublist
/-- Both rows struck, both fields written. -/
theorem Tab.both {w w1 w2 w3 wx : World} {B p : Nat} {hs ws hs' ws' : List Cm} {vh vw v1 v2 : Value} (m : Tab w B p hs ws vh vw) (hw1 : Below w.heap.size w w1) (g1 : w1.grownBy w2 vh.ownBlock) (o1 : OwnK w2 B tC v1 hs') (e1 : v1.ownBlock = vh.ownBlock)
    (g2 : w2.grownBy w3 vw.ownBlock) (o2 : OwnK w3 B tC v2 ws') (e2 : v2.ownBlock = vw.ownBlock) (hx : wx.heap = ((w3.setCell ⟨p, 0, none⟩ v1).setCell ⟨p, 1, none⟩ v2).heap) (ho : wx.os = w3.os ∧ wx.tape = w3.tape ∧ wx.output = w3.output) :
    Tab wx B p hs' ws' v1 v2 ∧ MovedT p NoM w wx := by
  have hp := m.box.lt
  obtain ⟨n1, n2⟩ := m.box_ne
  have hb1 : Blk w1 p tT #[vh, vw] := m.box.below hw1
  have hb3 : Blk w3 p tT #[vh, vw] := (hb1.grown g1 (Ne.symm n1)).grown g2 (Ne.symm n2)
  have hbx : Blk wx p tT #[v1, v2] := by
    have := (hb3.put 0 v1).put 1 v2
    unfold Blk at this ⊢
    rw [hx]
    simpa using this
  have oth : ∀ k, k ≠ p → wx.heap[k]? = w3.heap[k]? := fun k hk => by
    rw [hx, Below.heap_setCell _ _ _ _ hk, Below.heap_setCell _ _ _ _ hk]
  have hsz : wx.heap.size = w3.heap.size := by rw [hx]; simp
  have key : ∀ {v : Value} {ls : List Cm}, OwnK w3 B tC v ls → v.ownBlock ≠ some p → OwnK wx B tC v ls := by
    intro v ls h hv
    refine ⟨h.1, ?_⟩
    rcases h.2 with h1 | ⟨g, cap, cur, rfl, a2, a3, a4⟩
    · exact .inl h1
    · exact .inr ⟨g, cap, cur, rfl, a2, (oth g (fun e => hv (by simp [Value.ownBlock, e]))).trans a3, a4⟩
  have o1' : OwnK w3 B tC v1 hs' := o1.kept g2 (by rw [e1]; exact m.apart)
  have ht : Tab wx B p hs' ws' v1 v2 := ⟨hbx, m.base, key o1' (by rw [e1]; exact n1), key o2 (by rw [e2]; exact n2), by rw [e1, e2]; exact m.apart⟩
  have hle : w.heap.size ≤ w3.heap.size := Nat.le_trans hw1.size (Nat.le_trans g1.size g2.size)
  refine ⟨ht, ho.1.trans (g2.os.trans (g1.os.trans hw1.os)), ho.2.1.trans (g2.tape.trans (g1.tape.trans hw1.tape)), ho.2.2.trans (g2.output.trans (g1.output.trans hw1.output)), by rw [hsz]; exact hle, fun k hk hf _ => ?_, fun k hk => ?_⟩
  · have hkp : k ≠ p := fun e => hf (.inl e)
    have k1 : some k ≠ vh.ownBlock := fun e => hf (m.foot.2 (.inr (.inl e.symm)))
    have k2 : some k ≠ vw.ownBlock := fun e => hf (m.foot.2 (.inr (.inr e.symm)))
    have hk1 := Nat.lt_of_lt_of_le hk hw1.size
    rw [oth k hkp, g2.block k (Nat.lt_of_lt_of_le hk1 g1.size) k2, g1.block k hk1 k1, hw1.block k hk]
  · rcases ht.foot.1 hk with h | h | h
    · exact .inl (.inl h)
    · exact .inl (m.foot.2 (.inr (.inl (e1 ▸ h))))
    · exact .inl (m.foot.2 (.inr (.inr (e2 ▸ h))))
theorem Tab.both' {w0 w w1 w2 w3 wx : World} {B p : Nat} {hs ws hs' ws' : List Cm} {vh vw v1 v2 : Value} (m : Tab w B p hs ws vh vw) (h0 : Below w0.heap.size w0 w) (m0 : Tab w0 B p hs ws vh vw) (hw1 : Below w.heap.size w w1) (g1 : w1.grownBy w2 vh.ownBlock) (o1 : OwnK w2 B tC v1 hs') (e1 : v1.ownBlock = vh.ownBlock)
    (g2 : w2.grownBy w3 vw.ownBlock) (o2 : OwnK w3 B tC v2 ws') (e2 : v2.ownBlock = vw.ownBlock) (hx : wx.heap = ((w3.setCell ⟨p, 0, none⟩ v1).setCell ⟨p, 1, none⟩ v2).heap) (ho : wx.os = w3.os ∧ wx.tape = w3.tape ∧ wx.output = w3.output) :
    Tab wx B p hs' ws' v1 v2 ∧ MovedT p NoM w0 wx := by
  obtain ⟨a, b⟩ := m.both hw1 g1 o1 e1 g2 o2 e2 hx ho
  exact ⟨a, (MovedT.of_below h0 m0.box.lt).trans b⟩
theorem look_fst (hs ws : List Cm) : P43.look (fstT hs ws) = (fstT (lookM hs [] ws []).1.hs (lookM hs [] ws []).1.ws, (lookM hs [] ws []).2) := (lookM_fst ws hs [] []).symm
/-- Behind look. -/
theorem lo_done {F : Nat → Prop} {M : Nat → Prop} {w w1 w' : World} {B p : Nat} {hs ws hs1 ws1 : List Cm} {e : Ending} (hF : ∀ k, F k ↔ (FootT w p k ∨ ∃ x ∈ hs ++ ws, x.2 = k)) (mv : MovedT p M w w1) (hM : ∀ k, M k → ∃ x ∈ hs ++ ws, x.2 = k)
    (hx : ∀ x ∈ hs1 ++ ws1, ∃ y ∈ hs ++ ws, y.2 = x.2) (h : LPost w1 B p (lookM hs1 [] ws1 []).1 (lookM hs1 [] ws1 []).2 e w') :
    ∃ v, e = .returned v ∧ OwnI w' w.heap.size v (P43.look (fstT hs1 ws1)).2 ∧ ∃ F', TT w' B p (P43.look (fstT hs1 ws1)).1 F' ∧ Chg F F' w w' := by
  obtain ⟨v, vh, vw, rfl, ho, m', mv', _⟩ := h
  rw [look_fst]
  refine ⟨v, rfl, ho.base mv.size, TT.of_moved hF m' (mv.trans (mv'.wide (fun _ h => h.elim))) hM (fun x hx' => .inl (hx x ?_))⟩
  have hp := lookM_perm ws1 hs1 [] []
  simpa using hp.subset hx'
set_option maxRecDepth 100000 in
set_option maxHeartbeats 4000000 in
theorem clRelease (B p : Nat) (t : T) (F : Nat → Prop) (o : Int) (w : World) (m : TT w B p t F) (hl : t.hs.length + t.ws.length ≤ 100000) :
    Calls Tryz.prog 32 #[.pointer (some ⟨p, 0, none⟩), .int .i64 o] w (LoPost F w B p (releaseP t o)) := by
  obtain ⟨hs, ws, vh, vw, mT, rfl, hF⟩ := m
  have HF := Lib.hid hF
  have HMT := Lib.hid mT
  have hl1 : hs.length + ws.length ≤ 100000 := by simpa [fstT] using hl
  clear hF mT hl
  go_enter Tryz.func32, Tryz.ntmps32
  go_upto_region 1 with (fail)
  obtain ⟨w1, g, e1, e2, hb1, hg1⟩ := boxes1 w 3 #[.int .i64 o]
  rw [e1, e2]
  have HG := Lib.hid hg1
  have HGE := Lib.hid e2
  have HB1 := Lib.hid hb1
  have HM1 := Lib.hid (HMT.out.below hb1)
  have HAH := Lib.hid (show ∀ d os, ClsAt (grow (redrawn w1 d) os) none 0 [] → True from fun _ _ _ => trivial)
  clear e1 e2 hb1 hg1 HAH
  obtain ⟨Ah, ch, hvh, hh⟩ := HM1.out.clsH
  obtain ⟨Aw, cw, hvw, hw⟩ := HM1.out.clsW
  have HH := Lib.hid hh
  have HW := Lib.hid hw
  have HVH := Lib.hid hvh
  have HVW := Lib.hid hvw
  clear hh hw
  have hany1 := fIdxT_any (fun l : Cm => decide (l.1.id = o)) hs
  have hany2 := fIdxT_any (fun l : Cm => decide (l.1.id = o)) ws
  obtain ⟨j1, hj1⟩ : ∃ j1, fIdxT (fun l : Cm => decide (l.1.id = o)) hs = j1 := ⟨_, rfl⟩
  obtain ⟨j2, hj2⟩ : ∃ j2, fIdxT (fun l : Cm => decide (l.1.id = o)) ws = j2 := ⟨_, rfl⟩
  rw [hj1] at hany1
  rw [hj2] at hany2
  have HIT := Lib.hid (@inT_fst hs ws o)
  rw [← hany1, ← hany2] at HIT
  have F1 := Lib.hid (show ∀ d os, Calls Tryz.prog 25 #[.slice Ah hs.length ch, .int .i64 o] (grow (redrawn w1 d) os) fun e w' => e = .returned (.int .i64 j1) ∧ Below (grow (redrawn w1 d) os).heap.size (grow (redrawn w1 d) os) w' from fun d os => by
    have := clFind o Ah hs.length ch hs (grow (redrawn w1 d) os) (HH.out.at_.below (below_regrown w1 d os)) (by omega)
    rwa [hj1] at this)
  have F2 := Lib.hid (show ∀ d os, Calls Tryz.prog 25 #[.slice Aw ws.length cw, .int .i64 o] (grow (redrawn w1 d) os) fun e w' => e = .returned (.int .i64 j2) ∧ Below (grow (redrawn w1 d) os).heap.size (grow (redrawn w1 d) os) w' from fun d os => by
    have := clFind o Aw ws.length cw ws (grow (redrawn w1 d) os) (HW.out.at_.below (below_regrown w1 d os)) (by omega)
    rwa [hj2] at this)
  have c0 := HM1.out.box.cell 0
  have c1 := HM1.out.box.cell 1
  have cg := HG.out.cell 0
  simp at c0 c1 cg
  rw [hvh] at c0
  rw [hvw] at c1
  have hc0 := cell_regrown c0
  have hc1 := cell_regrown c1
  have hcg := cell_regrown cg
  clear c0 c1 cg hany1 hany2 hj1 hj2 hvh hvw
  go_cut [22] (fun v wx => v = .bool (decide (j1 < 0) && decide (j2 < 0)) ∧ Below w1.heap.size w1 wx)
  case first =>
    -- FAST(
    by_cases h1 : j1 < 0
    all_goals
      by_cases h2 : j2 < 0
      all_goals
        refine wp_region_quiet_below (by kernel_rfl) (by kernel_rfl) ?_
        repeat (quiet_step ((first | (go_at_call 25; refine Calls.regrown_of (F1.out _ _)) | (go_at_call 25; refine Calls.regrown_of (F2.out _ _)))))
        refine wpQuiet_nil ?_
        intro w7 hw7
        obtain ⟨pp, rfl⟩ := hw7
        have HBR := Lib.hid (below_regrown w1 pp.d pp.os)
        generalize grow (redrawn w1 pp.d) pp.os = w7 at HBR ⊢
        go_wp2
        go_meet
        case rel => exact ⟨by simp [h1, h2], HBR.out⟩
    -- FAST)
  case rest =>
    obtain ⟨rfl, hbw⟩ := hcut
    have HMC := Lib.hid (HM1.out.below hbw)
    have HGC := Lib.hid (HG.out.below hbw)
    have HBC := Lib.hid (HB1.out.trans (hbw.mono HB1.out.size))
    have HBW := Lib.hid hbw
    clear hc0 hc1 hcg F1 F2 hbw
    by_cases h12 : j1 < 0 ∧ j2 < 0
    · have h12b : (decide (j1 < 0) && decide (j2 < 0)) = true := by simpa using h12
      rw [h12b]
      have hrp : releaseP (fstT hs ws) o = (fstT hs ws, [], 6) := by
        unfold releaseP
        rw [HIT.out, if_neg (by simp; omega)]
      clear h12b h12
      go_wp2
      go_ret2
      rw [hrp]
      exact TPost.same ⟨hs, ws, vh, vw, HMT.out, rfl, HF.out⟩ HBC.out ⟨_, rfl, OwnI.nil _ _⟩
    · have h12b : (decide (j1 < 0) && decide (j2 < 0)) = false := by
        simp only [Bool.and_eq_false_iff, decide_eq_false_iff_not]
        omega
      rw [h12b]
      have HRP := Lib.hid (show releaseP (fstT hs ws) o = ((release (fstT hs ws) o).1, (release (fstT hs ws) o).2, 0) from by
        unfold releaseP
        rw [HIT.out, if_pos (by simp; omega)])
      have hmf : ∀ (fn : Fn) (first cap : Array Value) (w : World), (Instr.makeFunc fn first cap).run Tryz.prog w = .ok (.func fn first cap) w := fun _ _ _ _ => rfl
      clear h12b h12 HH HW HVH HVW HIT
      go_upto_region 4 with (fail)
      have hd0 := HMC.out.box.cell 0
      have hd1 := HMC.out.box.cell 1
      have hf0 := HMC.out.box.frozen 0
      have hf1 := HMC.out.box.frozen 1
      simp at hd0 hd1
      have HNE := Lib.hid HMC.out.box_ne
      have hgp : p ≠ g := fun e => by have h1 := HMT.out.box.lt; have h2 := HGE.out; omega
      have hvg : vh.ownBlock ≠ some g ∧ vw.ownBlock ≠ some g := ⟨fun e => by have h1 := (HMT.out.held.lt g e).2; have h2 := HGE.out; omega, fun e => by have h1 := (HMT.out.wait.lt g e).2; have h2 := HGE.out; omega⟩
      have HVG := Lib.hid hvg
      have HAP := Lib.hid (show vw.ownBlock = none ∨ vw.ownBlock ≠ vh.ownBlock from by
        rcases HMC.out.apart with e | e
        · by_cases h0 : vw.ownBlock = none
          · exact .inl h0
          · exact .inr (by rw [e]; exact h0)
        · exact .inr (Ne.symm e))
      clear hmf hvg hgp HM1
      go_cut [31, 37] (fun _ _ wx => ∃ v1 v2, Tab wx B p (keptT (fun l : Cm => decide (l.1.id = o)) hs) (keptT (fun l : Cm => decide (l.1.id = o)) ws) v1 v2 ∧ MovedT p NoM w wx)
      case first =>
        go_region_with (first | (go_at_call 61; ((refine (clDeleteFunc _ _ (fun l => decide (l.1.id = o)) B vw ws w2 ((HMC.out.wait.drew).kept HG2.out HAP.out) (by omega) (relAsksG ((HGC.out.drew).grown HG2.out (Ne.symm HVG.out.1)) HVG.out.2)).mono ?_); rintro e w3 ⟨v3, rfl, ho3, hg3, he3⟩; obtain ⟨A3, c3, hv3, -, -⟩ := ho3.cells; subst hv3; have HO3 := Lib.hid ho3; have HG3 := Lib.hid hg3; have HE3 := Lib.hid he3; have hb3 := HB2.out.grown hg3 (Ne.symm HNE.out.2); have k30 := hb3.cell 0; have k31 := hb3.cell 1; have k3f0 := hb3.frozen 0; have k3f1 := hb3.frozen 1; simp at k30 k31; clear ho3 hg3 he3 hb3)) | (go_at_call 61; ((refine (clDeleteFunc _ _ (fun l => decide (l.1.id = o)) B vh hs wc.drew (HMC.out.held.drew) (by omega) (relAsksG (HGC.out.drew) HVG.out.1)).mono ?_); rintro e w2 ⟨v2, rfl, ho2, hg2, he2⟩; obtain ⟨A2, c2, hv2, -, -⟩ := ho2.cells; subst hv2; have HO2 := Lib.hid ho2; have HG2 := Lib.hid hg2; have HE2 := Lib.hid he2; have hb2 := (HMC.out.box.drew).grown hg2 (Ne.symm HNE.out.1); have k20 := hb2.cell 0; have k21 := hb2.cell 1; have k2f0 := hb2.frozen 0; have k2f1 := hb2.frozen 1; simp at k20 k21; have HB2 := Lib.hid hb2; clear ho2 hg2 he2 hb2)))
        all_goals
          go_wp2
          go_meet
          case rel => exact ⟨_, _, HMC.out.toTab.both' HBC.out HMT.out.toTab ((Below.refl _ wc).drew) HG2.out HO2.out HE2.out HG3.out HO3.out HE3.out rfl ⟨rfl, rfl, rfl⟩⟩
      case rest =>
        obtain ⟨v1, v2, ht, hv⟩ := hcut
        have HV := Lib.hid hv
        have HK := Lib.hid (HMT.out.maps.movedT HMT.out.toTab hv (fun _ _ h => h))
        have HT := Lib.hid (show Tbl wc B p (keptT (fun l : Cm => decide (l.1.id = o)) hs) (keptT (fun l : Cm => decide (l.1.id = o)) ws) v1 v2 from ⟨ht, HK.out.sub ((kept_sub _ _).append (kept_sub _ _))⟩)
        have hk1 : (keptT (fun l : Cm => decide (l.1.id = o)) hs).length ≤ hs.length := (kept_sub _ _).length_le
        have hk2 : (keptT (fun l : Cm => decide (l.1.id = o)) ws).length ≤ ws.length := (kept_sub _ _).length_le
        clear ht hv hd0 hd1 hf0 hf1
        go_wp2_with fail
        refine (clLook B p _ _ v1 v2 wc HT.out (by omega)).mono ?_
        rintro e w5 h5
        obtain ⟨v, rfl, ho5, ht5⟩ := lo_done HF.out HV.out (fun _ h => h.elim) (fun x hx => ⟨x, ((kept_sub _ _).append (kept_sub _ _)).subset hx, rfl⟩) h5
        have HO5 := Lib.hid ho5
        have HT5 := Lib.hid ht5
        clear h5 ho5 ht5
        go_wp2
        go_ret2
        have e9 : release (fstT hs ws) o = P43.look (fstT (keptT (fun l : Cm => decide (l.1.id = o)) hs) (keptT (fun l : Cm => decide (l.1.id = o)) ws)) := by
          unfold release fstT
          rw [kept_dropM, kept_dropM]
        rw [HRP.out, e9]
        exact ⟨⟨_, rfl, HO5.out⟩, HT5.out⟩
end Go.Proofs.YtjklhiifjnmedaaGreatDoor
namespace Go.Proofs.YtjklhiifjnmedaaGreatDoor
open Go.RowKit P43 Go.Maps Go.Sort Go.Shelf
attribute [local go_sem] ByteArray.mk_append_mk ByteArray.extract_mk mk_index

theorem ownsMap_tight {H : Type} {w : World} {P : Program} {k : TypeId} {R : Value → Option (DataW H × List MemPlace)} {b n : Nat} {D : DataW H} (h : w.ownsMap P k R b n D) : w.ownsMap P k R b (Maps.size D) D := by
  obtain ⟨es, clock, hb, F, _, rfl⟩ := h
  exact ⟨es, clock, hb, F, by simp [Maps.size, length_sorted], rfl⟩
theorem NMap.tight {w : World} {b n : Nat} {ns : List (Nm × Bool)} (h : NMap w Tryz.prog 9 4 b n (lk ns)) (hk : Keys ns) : ns.length ≤ n ∧ NMap w Tryz.prog 9 4 b ns.length (lk ns) := by
  obtain ⟨D, hown, h2, h3⟩ := h.own
  obtain ⟨k1, k2⟩ := strKeys_spec hown Tryz.underlying9
  have hp : (strKeys D).Perm (names ns) := (List.perm_ext_iff_of_nodup k1 hk).2 fun x => by rw [k2, h2, lk_isSome]; rfl
  have hl := hp.length_eq
  have e : (strKeys D).length = Maps.size D := by
    obtain ⟨es, rfl, _⟩ := hown.entries (string_keyed Tryz.underlying9)
    show (es.map fun p => strOf p.1).length = es.length
    rw [List.length_map]
  have e2 : (names ns).length = ns.length := by unfold names; rw [List.length_map]
  have e3 : Maps.size D = ns.length := by omega
  refine ⟨by have := hown.size_le; omega, D, ?_, h2, h3⟩
  rw [← e3]
  exact ownsMap_tight hown
theorem lk_setF {c : Cl} {s : Nm} (hk : Keys c.ns) (hs : s ∈ names c.ns) : putN (lk c.ns) s false = lk (setF c s).ns := by
  have hk2 : Keys (setF c s).ns := by
    show (names (setF c s).ns).Nodup
    rw [setF_names]
    exact hk
  funext z
  unfold putN
  by_cases e : z = s
  · subst e
    rw [if_pos rfl]
    obtain ⟨p, hp, e⟩ := List.mem_map.1 hs
    exact ((lk_some hk2).2 (List.mem_map.2 ⟨p, hp, by rw [if_pos e, e]⟩)).symm
  · rw [if_neg e]
    refine Option.ext fun x => ?_
    rw [lk_some hk, lk_some hk2]
    constructor
    · intro h
      exact List.mem_map.2 ⟨(z, x), h, by rw [if_neg e]⟩
    · intro h
      obtain ⟨p, hp, h2⟩ := List.mem_map.1 h
      split at h2
      · rename_i hps
        have : p.1 = z := congrArg Prod.fst h2
        exact absurd (this.symm.trans hps) e
      · rw [← h2]
        exact hp
theorem fIdx_cases (f : Cm → Bool) (ls : List Cm) : (fIdxT f ls = -1 ∧ ∀ x ∈ ls, f x = false) ∨ ∃ (k : Nat) (x : Cm), fIdxT f ls = k ∧ ls[k]? = some x ∧ f x = true ∧ ∀ j, j < k → ∀ l, ls[j]? = some l → f l = false := by
  unfold fIdxT
  cases h : ls.findIdx? f with
  | none => exact .inl ⟨rfl, by simpa using h⟩
  | some k =>
    rw [List.findIdx?_eq_some_iff_getElem] at h
    obtain ⟨hk, h1, h2⟩ := h
    refine .inr ⟨k, ls[k], rfl, List.getElem?_eq_getElem hk, h1, fun j hj l hl => ?_⟩
    obtain ⟨hj2, rfl⟩ := List.getElem?_eq_some_iff.1 hl
    simpa using h2 j hj
theorem held_at {hs ws : List Cm} {o : Int} {k : Nat} {x : Cm} (hx : hs[k]? = some x) (hid : x.1.id = o) (hj : ∀ j, j < k → ∀ l, hs[j]? = some l → decide (l.1.id = o) = false) : heldP (fstT hs ws) o = x.1.ns := by
  have e : ((fstT hs ws).hs.find? fun c => decide (c.id = o)) = some x.1 := by
    show ((hs.map (·.1)).find? fun c => decide (c.id = o)) = some x.1
    rw [List.find?_map]
    have : hs.find? ((fun c : Cl => decide (c.id = o)) ∘ fun x => x.1) = some x := by
      rw [List.find?_eq_some_iff_getElem]
      obtain ⟨hk, e⟩ := List.getElem?_eq_some_iff.1 hx
      refine ⟨by simpa using hid, k, hk, e, fun j hjk => ?_⟩
      have := hj j hjk hs[j] (List.getElem?_eq_getElem _)
      simpa using this
    rw [this]
    rfl
  unfold heldP
  rw [e]
  rfl
theorem held_nil {hs ws : List Cm} {o : Int} (h : ∀ x ∈ hs, decide (x.1.id = o) = false) : heldP (fstT hs ws) o = [] := by
  refine held_none fun hm => ?_
  obtain ⟨c, hc, e⟩ := List.mem_map.1 hm
  obtain ⟨x, hx, rfl⟩ := List.mem_map.1 hc
  have := h x hx
  rw [decide_eq_false_iff_not] at this
  exact this e
theorem split_at {α : Type} {l : List α} {k : Nat} {x : α} (h : l[k]? = some x) : l = l.take k ++ x :: l.drop (k + 1) := by
  obtain ⟨hk, e⟩ := List.getElem?_eq_some_iff.1 h
  rw [← e, ← List.drop_eq_getElem_cons hk, List.take_append_drop]
/-- A map of a holder written anew. -/
theorem Tbl.turn {w w4 : World} {B p : Nat} {pre post ws : List Cm} {vh vw : Value} {x : Cm} {c : Cl} (m : Tbl w B p (pre ++ x :: post) ws vh vw) (hc : c.id = x.1.id) (hg : w.grownBy w4 (some x.2)) (hn : NsAt w4 (c, x.2)) :
    Tbl w4 B p (pre ++ (c, x.2) :: post) ws vh vw ∧ MovedT p (fun k => k = x.2) w w4 := by
  have hxm : x ∈ pre ++ x :: post ++ ws := by simp
  have hnf : ¬ FootT w p x.2 := fun hf => by obtain ⟨t, cs, hb⟩ := FootT.blk m.toTab hf; exact (m.maps.ns x hxm).noBlk hb
  have ht := m.toTab.far hg (fun k e => by cases e; exact hnf)
  have ecc : ccs (pre ++ (c, x.2) :: post) = ccs (pre ++ x :: post) := by
    rw [ccs_append, ccs_append, ccs_cons, ccs_cons]
    simp [cc, hc]
  have hold : OwnK w4 B tC vh (pre ++ (c, x.2) :: post) := by
    have := ht.held
    unfold OwnK at this ⊢
    rw [ecc]
    simpa using this
  have hnd := m.maps.nd
  have hne : ∀ y ∈ pre ++ post ++ ws, y.2 ≠ x.2 := by
    intro y hy e
    have hp : (pre ++ x :: post ++ ws).Perm (x :: (pre ++ post ++ ws)) := by
      rw [List.append_assoc, List.cons_append, List.append_assoc]
      exact List.perm_middle
    have := ((hp.map (·.2)).nodup_iff).1 hnd
    exact (List.nodup_cons.1 this).1 (List.mem_map.2 ⟨y, hy, e⟩)
  refine ⟨⟨⟨ht.box, ht.base, hold, ht.wait, ht.apart⟩, ⟨fun y hy => ?_, fun y hy => ?_, ?_⟩⟩, hg.os, hg.tape, hg.output, hg.size, fun k hk _ hm => hg.block k hk (fun e => hm (by simpa using e)), fun k hk => .inl (m.toTab.foot.2 (ht.foot.1 hk))⟩
  · simp only [List.mem_append, List.mem_cons] at hy
    by_cases e : y = (c, x.2)
    · rw [e]; exact hn
    · have hy2 : y ∈ pre ++ post ++ ws := by
        simp only [List.mem_append]
        rcases hy with (h | h | h) | h
        · exact .inl (.inl h)
        · exact absurd h e
        · exact .inl (.inr h)
        · exact .inr h
      have hym : y ∈ pre ++ x :: post ++ ws := by
        simp only [List.mem_append, List.mem_cons] at hy2 ⊢
        rcases hy2 with (h | h) | h <;> simp [h]
      have h0 := m.maps.ns y hym
      exact h0.heap (hg.block _ h0.lt (fun e2 => hne y hy2 (by simpa using e2)))
  · simp only [List.mem_append, List.mem_cons] at hy
    rcases hy with (h | rfl | h) | h
    · exact m.maps.lo y (by simp [h])
    · exact m.maps.lo x hxm
    · exact m.maps.lo y (by simp [h])
    · exact m.maps.lo y (by simp [h])
  · have : (pre ++ (c, x.2) :: post ++ ws).map (·.2) = (pre ++ x :: post ++ ws).map (·.2) := by simp
    rw [this]
    exact hnd
theorem shareL_at {pre post : List Cm} {x : Cm} {s : Nm} (hnd : (ids ((pre ++ x :: post).map (·.1))).Nodup) : shareL ((pre ++ x :: post).map (·.1)) x.1.id s = (pre ++ (setF x.1 s, x.2) :: post).map (·.1) := by
  unfold shareL
  have hne : ∀ y ∈ pre ++ post, ¬ y.1.id = x.1.id := by
    intro y hy e
    have hp : (pre ++ x :: post).Perm (x :: (pre ++ post)) := List.perm_middle
    have := (((hp.map (Prod.fst (α := Cl) (β := Nat))).map Cl.id).nodup_iff).1 hnd
    exact (List.nodup_cons.1 this).1 (List.mem_map.2 ⟨y.1, List.mem_map.2 ⟨y, hy, rfl⟩, e⟩)
  simp only [List.map_append, List.map_cons, if_pos, List.map_map]
  congr 1
  · refine List.map_congr_left fun y hy => ?_
    simp only [Function.comp]
    rw [if_neg (hne y (by simp [hy]))]
  · congr 1
    refine List.map_congr_left fun y hy => ?_
    simp only [Function.comp]
    rw [if_neg (hne y (by simp [hy]))]
end Go.Proofs.YtjklhiifjnmedaaGreatDoor
namespace Go.Proofs.YtjklhiifjnmedaaGreatDoor
open Go.RowKit P43 Go.Maps Go.Sort Go.Shelf
attribute [local go_sem] ByteArray.mk_append_mk ByteArray.extract_mk mk_index

abbrev tNL : TypeId := 31
theorem infoN : (Tryz.prog.info? tNL).map (fun i => (i.zero, i.size, i.bytes)) = some (some (.agg #[.string ⟨#[]⟩, .bool false]), 2, 24) := by kernel_rfl
theorem sorted_names {ns : List (Nm × Bool)} (h : Srt ns) {ss : List Nm} (hn : ss.Nodup) (hm : ∀ s, s ∈ ss ↔ (lk ns s).isSome = true) : (ss.mergeSort fun x y => decide (x ≤ y)) = names ns := by
  have hp : ss.Perm (names ns) := (List.perm_ext_iff_of_nodup hn h.once).2 fun s => by rw [hm, lk_isSome]
  have h1 : ((ss.mergeSort fun x y => decide (x ≤ y))).Pairwise fun a b => decide (a ≤ b) = true :=
    List.pairwise_mergeSort (le := fun x y => decide (x ≤ y)) (fun a b c h k => by simp only [decide_eq_true_eq] at *; exact List.le_trans h k) (fun a b => by simp only [Bool.or_eq_true, decide_eq_true_eq]; exact List.le_total _ _) ss
  have h2 : (names ns).Pairwise fun a b => decide (a ≤ b) = true := List.pairwise_map.2 (h.up.imp fun {a b} hab => hab)
  refine List.Perm.eq_of_pairwise (le := fun a b : Nm => decide (a ≤ b) = true) (fun a b _ _ hab hba => ?_) h1 h2 ((List.mergeSort_perm _ _).trans hp)
  simp only [decide_eq_true_eq] at hab hba
  exact List.le_antisymm hab hba
set_option maxRecDepth 100000 in
set_option maxHeartbeats 4000000 in
theorem clHeld (B p : Nat) (t : T) (F : Nat → Prop) (o : Int) (w : World) (m : TT w B p t F) (hl : t.hs.length + t.ws.length ≤ 100000) (hg : ∀ c ∈ t.hs, GoodC c) :
    Calls Tryz.prog 14 #[.pointer (some ⟨p, 0, none⟩), .int .i64 o] w fun e w' => ∃ v, e = .returned v ∧ OwnN w' w.heap.size tNL v (heldP t o) ∧ Below w.heap.size w w' := by
  obtain ⟨hs, ws, vh, vw, mT, rfl, hF⟩ := m
  have HMT := Lib.hid mT
  have HGC := Lib.hid hg
  have hl1 : hs.length + ws.length ≤ 100000 := by simpa [fstT] using hl
  have hz : ∀ w, (zeroValue 4).run Tryz.prog w = .ok (.bool false) w := fun w => by kernel_rfl
  clear hF mT hl hg
  obtain ⟨Ah, ch, rfl, hh⟩ := HMT.out.clsH
  have HH := Lib.hid hh
  have hc0 := HMT.out.box.cell 0
  simp at hc0
  clear hh
  go_enter Tryz.func14, Tryz.ntmps14
  go_wp2_with fail
  refine (clFind o Ah hs.length ch hs w HH.out.at_ (by omega)).mono ?_
  rintro e w2 ⟨rfl, hb2⟩
  have HB2 := Lib.hid hb2
  have HM2 := Lib.hid (HMT.out.below hb2)
  have hd0 := HM2.out.box.cell 0
  simp at hd0
  have hat := HH.out.at_.below hb2
  rcases fIdx_cases (fun l : Cm => decide (l.1.id = o)) hs with ⟨hj, hno⟩ | ⟨k, x, hj, hx, hid, hjk⟩
  · rw [hj]
    have HE := Lib.hid (held_nil (ws := ws) hno)
    clear hj hno hb2 hc0 hat
    go_wp2
    go_ret
    rw [HE.out]
    exact ⟨_, rfl, OwnN.nil _ _ _, HB2.out⟩
  · rw [hj]
    have hkl : k < hs.length := (List.getElem?_eq_some_iff.1 hx).1
    obtain ⟨b, off, x', rfl, hx', x0, x1⟩ := hat.at_ hkl
    obtain rfl : x = x' := by rw [hx] at hx'; exact Option.some.inj hx'
    have HHE := Lib.hid (held_at (ws := ws) hx (by simpa using hid) hjk)
    have HNX := Lib.hid (HM2.out.maps.ns x (List.mem_append_left _ (List.mem_of_getElem? hx)))
    have hk1 : (k : Int) < (hs.length : Int) := by omega
    have hk2 : (0 : Int) ≤ (k : Int) := by omega
    obtain ⟨n, hn⟩ : ∃ n, hs.length = n := ⟨_, rfl⟩
    have HGX := Lib.hid (HGC.out x.1 (List.mem_map.2 ⟨x, List.mem_of_getElem? hx, rfl⟩))
    have HX1 := Lib.hid x1
    have HD0 := Lib.hid hd0
    rw [hn] at hk1 hkl HD0
    clear hj hx hx' hid hjk hb2 hat hc0 x0
    go_wp2_with (first | (go_at_call 34; refine (clKeys (some x.2) _).mono ?_; rintro e w3 ⟨rfl, rfl⟩) | (go_at_call 33; refine (clSorted x.2 1000 _ w2 HNX.out.1 (by omega)).mono ?_; rintro e w4 ⟨v4, ss, rfl, hsn, hsm, hown, hb4⟩; have HOS := Lib.hid (show OwnS w4 w2.heap.size 9 v4 (names x.1.ns) from (by have e := sorted_names HGX.out.srt hsn hsm; have e2 : ss.length = (names x.1.ns).length := (by rw [← e]; exact (List.mergeSort_perm _ _).length_eq.symm); unfold OwnS; rw [← e2, ← e]; exact hown)); have HB4 := Lib.hid hb4; clear hsn hsm hown hb4; obtain ⟨A4, n4, c4, rfl, hss4, hm4, hn4⟩ := HOS.out.strs; have HSS := Lib.hid hss4; have HN4 := Lib.hid hn4; clear hss4 hn4))
    obtain ⟨ns, hns⟩ : ∃ ns, x.1.ns = ns := ⟨_, rfl⟩
    have HGL := Lib.hid (show ns.length ≤ 12 from by rw [← hns]; exact HGX.out.len)
    have HGN := Lib.hid (show ∀ q ∈ ns, q.1.length ≤ 60 from by rw [← hns]; exact HGX.out.nm)
    have HGS := Lib.hid (show Srt ns from by rw [← hns]; exact HGX.out.srt)
    rw [hns] at HHE HSS HN4
    have HNM := Lib.hid (show NMap w2 Tryz.prog 9 4 x.2 1000 (lk ns) from by rw [← hns]; exact HNX.out.1)
    have HKN := Lib.hid (show Keys ns from HGS.out.once)
    have hn12 : n4 ≤ 12 := by
      have h1 := HGL.out
      have h2 := HN4.out
      unfold names at h2
      rw [List.length_map] at h2
      omega
    have HW4 := Lib.hid (show Below w.heap.size w w4 from HB2.out.trans (HB4.out.mono HB2.out.size))
    obtain ⟨i0, hi0', hz0, hz1, hz2⟩ := info_parts infoN
    have HI0 := Lib.hid hi0'
    have HZ0 := Lib.hid hz0
    have HZ1 := Lib.hid hz1
    have HZ2 := Lib.hid hz2
    have HZ := Lib.hid hz
    clear hns hd0 x1 hi0' hz0 hz1 hz2 hz hm4
    go_loopw [6, 28] (fun ov iv wr => ∃ j : Nat, j ≤ n4 ∧ iv = .int .i64 j ∧ OwnN wr w4.heap.size tNL ov (ns.take j) ∧ Below w4.heap.size w4 wr) (fun _ iv _ => n4 - (intOf iv).toNat)
    case atStart => exact ⟨0, Nat.zero_le _, rfl, OwnN.nil _ _ _, Below.refl _ _⟩
    case round =>
      obtain ⟨j, hj, rfl, ho, hb⟩ := hrel
      have HO := Lib.hid ho
      have HB := Lib.hid hb
      clear ho hb
      by_cases hlt : j < n4
      · obtain ⟨g4, off4, s, rfl, hsj, y0⟩ := (HSS.out.below HB.out).at_ hlt
        obtain ⟨q, hq, hqs⟩ : ∃ q, ns[j]? = some q ∧ q.1 = s := by
          unfold names at hsj
          rw [List.getElem?_map] at hsj
          obtain ⟨q, h1, h2⟩ := Option.map_eq_some_iff.1 hsj
          exact ⟨q, h1, h2⟩
        subst hqs
        have HQ := Lib.hid hq
        have hqm := List.mem_of_getElem? hq
        have hq60 := HGN.out q hqm
        have HLK := Lib.hid ((lk_some HKN.out).2 (show (q.1, q.2) ∈ ns from hqm))
        have hj1 : (j : Int) < (n4 : Int) := by omega
        have hj2 : (0 : Int) ≤ (j : Int) := by omega
        have hW := below_then HB4.out HB.out
        have d0 := (hW.cell (World.block_lt_of_cell? _ _ HD0.out)).trans HD0.out
        have d1 := (hW.cell (World.block_lt_of_cell? _ _ HX1.out)).trans HX1.out
        have HNW := Lib.hid (HNM.out.below hW)
        have HQL := Lib.hid (show q.1.length ≤ maxLen from by unfold maxLen; omega)
        have hzr := HZ.out wr
        have htk : (ns.take j).length ≤ 1000000 := by have := List.length_take_le j ns; have := HGL.out; omega
        have hle : w4.heap.size ≤ wr.heap.size := HB.out.size
        clear hsj hq hqm hW
        go_wp2_with (first | (refine wpList_nm_look rfl (.tmp 41) (.tmp 42) _ rfl Tryz.underlying59 Tryz.underlying9 Tryz.underlying4 hzr rfl HNW.out q.1 HQL.out rfl ?_; rw [HLK.out]; simp only [Option.getD_some]) | (at_builtin; refine wpList_append_nl rfl (.tmp 32) (.tmp 45) _ rfl w4.heap.size tNL i0 _ 24 Tryz.underlying32 HI0.out HZ0.out HZ1.out HZ2.out rfl (by omega) u6 (ns.take j) rfl (HO.out.alloc _) q wr.heap.size 0 1 rfl (NlsAt.lit1 wr tNL q) htk (by simp; omega) ?_; intro v11 w11 hown11 hg11 hat11 _; have HO11 := Lib.hid hown11; have HG11 := Lib.hid hg11; clear hown11 hg11 hat11))
        refine ⟨⟨j + 1, hlt, by simp, by rw [take_snoc HQ.out]; exact HO11.out, ?_⟩, by dsimp only [intOf]; omega⟩
        exact (HB.out.alloc hle _).grown HG11.out (by simp; omega) (fun k e => (HO.out.lt k e).1)
      · have hjn : j = n4 := by omega
        have hj1 : ¬ (j : Int) < (n4 : Int) := by omega
        go_wp2
        go_ret
        have ho := HO.out
        rw [hjn, List.take_of_length_le (by have h2 := HN4.out; unfold names at h2; rw [List.length_map] at h2; omega)] at ho
        rw [HHE.out]
        exact ⟨_, rfl, World.ownsRow.mono ho HW4.out.size, HW4.out.trans (HB.out.mono HW4.out.size)⟩
end Go.Proofs.YtjklhiifjnmedaaGreatDoor
namespace Go.Proofs.YtjklhiifjnmedaaGreatDoor
open Go.RowKit P43 Go.Maps Go.Sort Go.Shelf
attribute [local go_sem] ByteArray.mk_append_mk ByteArray.extract_mk mk_index

theorem clSortI (B : Nat) (v : Value) (xs : List Int) (w : World) (h : OwnI w B v xs) (hl : xs.length ≤ 1000000) :
    Calls Tryz.prog 56 #[v] w fun e w' => e = .returned (.tuple #[]) ∧ OwnI w' B v (sortZ xs) ∧ w.grownBy w' v.ownBlock := by
  rcases h.2 with ⟨rfl, h0⟩ | ⟨g, cap, cur, rfl, a2, a3, a4, a5, a6, a7⟩
  · have : xs = [] := by simpa using h0
    subst this
    refine (AnyM.slices_Sort_int_none Tryz.sortI none 0 w).mono ?_
    rintro e w' ⟨rfl, rfl⟩
    exact ⟨rfl, by simpa [sortZ] using h, grown_refl _ _⟩
  · have hH := holds_of_blockI (ss := xs) a3 (by simpa using a7)
    refine (AnyM.slices_Sort_int Tryz.sortI g 0 cap xs w hH (Array.getElem?_eq_some_iff.1 a3).1 (by omega)).mono ?_
    rintro e w' ⟨rfl, n, os, rfl⟩
    refine ⟨rfl, ?_, grownBy_sortedI _⟩
    have := ownsRow_sortedI (w := w) (n := n) (os := os) (ss := xs) (ts := sortZ xs) (len_sortZ xs) a2 a3 a4 a5 a6
    unfold OwnI
    rw [len_sortZ]
    exact this
def hasN (s : Nm) (x : Cm) : Bool := (lk x.1.ns s).isSome
def exN (s : Nm) (x : Cm) : Bool := (lk x.1.ns s).getD false
theorem holders_fst (hs ws : List Cm) (s : Nm) : holdersP (fstT hs ws) s = (sortZ (idsM (hs.filter (hasN s))), hs.any (exN s)) := by
  unfold holdersP fstT idsM ids
  rw [List.filter_map, List.any_map, List.map_map]
  rfl
theorem filter_take {α : Type} {f : α → Bool} {l : List α} {k : Nat} {x : α} (h : l[k]? = some x) : (l.take (k + 1)).filter f = if f x = true then (l.take k).filter f ++ [x] else (l.take k).filter f := by
  rw [List.take_add_one, h, List.filter_append]
  by_cases e : f x = true <;> simp [e]
theorem any_take {α : Type} {f : α → Bool} {l : List α} {k : Nat} {x : α} (h : l[k]? = some x) : (l.take (k + 1)).any f = ((l.take k).any f || f x) := by
  rw [List.take_add_one, h, List.any_append]
  simp
theorem filter_len {α : Type} {f : α → Bool} (l : List α) (k : Nat) : ((l.take k).filter f).length ≤ l.length := Nat.le_trans (List.length_filter_le _ _) (by have := List.length_take_le' k l; omega)
end Go.Proofs.YtjklhiifjnmedaaGreatDoor
namespace Go.Proofs.YtjklhiifjnmedaaGreatDoor
open Go.RowKit P43
attribute [local go_sem] ByteArray.mk_append_mk ByteArray.extract_mk mk_index

theorem ids_idsM (l : List Cm) : ids (l.map (·.1)) = idsM l := by
  unfold ids idsM
  rw [List.map_map]
  rfl
theorem clWaitT (B p : Nat) (t : T) (F : Nat → Prop) (w : World) (m : TT w B p t F) (hl : t.hs.length + t.ws.length ≤ 100000) :
    Calls Tryz.prog 12 #[.pointer (some ⟨p, 0, none⟩)] w fun e w' => ∃ v, e = .returned v ∧ OwnI w' w.heap.size v (ids t.ws) ∧ Below w.heap.size w w' := by
  obtain ⟨hs, ws, vh, vw, mT, rfl, hF⟩ := m
  have := clWaiting B p hs ws vh vw w mT (by simp [fstT] at hl; omega)
  rw [← ids_idsM] at this
  exact this
set_option maxRecDepth 100000 in
set_option maxHeartbeats 4000000 in
theorem clOwners (B p : Nat) (t : T) (F : Nat → Prop) (w : World) (m : TT w B p t F) (hl : t.hs.length + t.ws.length ≤ 100000) :
    Calls Tryz.prog 36 #[.pointer (some ⟨p, 0, none⟩)] w fun e w' => ∃ v, e = .returned v ∧ OwnI w' w.heap.size v (sortZ (ids (t.hs ++ t.ws))) ∧ Below w.heap.size w w' := by
  obtain ⟨hs, ws, vh, vw, mT, rfl, hF⟩ := m
  have hl1 : hs.length + ws.length ≤ 100000 := by simpa [fstT] using hl
  have HW := Lib.hid (clWaiting B p hs ws vh vw w mT (by omega))
  obtain ⟨A, c, rfl, hA⟩ := mT.clsH
  have HC := Lib.hid mT.box
  obtain ⟨n, hn⟩ : ∃ n, hs.length = n := ⟨_, rfl⟩
  have HE := Lib.hid (show ids ((fstT hs ws).hs ++ (fstT hs ws).ws) = idsM hs ++ idsM ws from by
    rw [ids_append]
    unfold fstT
    rw [ids_idsM, ids_idsM])
  rw [hn] at HC hA hl1
  have HA := Lib.hid hA
  have HN := Lib.hid hn
  obtain ⟨i1, hi1', hy0, hy1, hy2⟩ := info_parts infoI
  have HI1 := Lib.hid hi1'
  have HY0 := Lib.hid hy0
  have HY1 := Lib.hid hy1
  have HY2 := Lib.hid hy2
  clear mT hA hn hi1' hy0 hy1 hy2 hF hl
  go_enter Tryz.func36, Tryz.ntmps36
  go_upto_region 2 with (go_at_call 12; refine HW.out.mono ?_; rintro e w1 ⟨v1, rfl, ho1, hb1⟩; have HO1 := Lib.hid ho1; have HB1 := Lib.hid hb1; have hc := (HC.out.below hb1).cell 0; simp at hc; clear ho1 hb1)
  go_wp2
  go_loopw [3, 13] (fun ov iv wr => ∃ k : Nat, k ≤ n ∧ iv = .int .i64 k ∧ OwnI wr w.heap.size ov (idsM ws ++ idsM (hs.take k)) ∧ Below w.heap.size w wr) (fun _ iv _ => n - (intOf iv).toNat)
  case atStart => exact ⟨0, Nat.zero_le _, rfl, by simpa [idsM] using HO1.out, HB1.out⟩
  case round =>
    obtain ⟨k, hk, rfl, ho, hb⟩ := hrel
    have HO := Lib.hid ho
    have HB := Lib.hid hb
    have hsz := hb.size
    clear ho hb
    have hfl : (idsM ws ++ idsM (hs.take k)).length ≤ 1000000 := by
      have := List.length_take_le k hs
      unfold idsM
      rw [List.length_append, List.length_map, List.length_map]
      omega
    by_cases hlt : k < n
    · have hs2 := HA.out.at_.below HB.out
      obtain ⟨b, off, x, rfl, hx, x0, x1⟩ := hs2.at_ hlt
      have HX := Lib.hid (show idsM ws ++ idsM (hs.take (k + 1)) = (idsM ws ++ idsM (hs.take k)) ++ [x.1.id] from by rw [idsM_take hx, List.append_assoc])
      have hk1 : (k : Int) < (n : Int) := by omega
      have hk2 : (0 : Int) ≤ (k : Int) := by omega
      clear hs2 hx
      go_upto_region 5 with (fail)
      obtain ⟨w2, q, e1, e2, hb2, hq⟩ := boxes1 wr tC (ca x)
      unfold ca at e1
      rw [show wr.alloc (.cells #[.int .i64 x.1.id, .map (some x.2)] 61) = w2 from e1, e2]
      have hq0 := hq.cell 0
      simp [ca] at hq0
      have HB2 := Lib.hid (HB.out.trans (hb2.mono hsz))
      have HO2 := Lib.hid (HO.out.below hb2)
      have hsz2 := HB2.out.size
      clear e1 e2 hb2 hq x0 x1
      go_wp2_with (at_builtin; refine wpList_append_int rfl (.tmp 17) (.tmp 20) _ rfl w.heap.size i1 _ Tryz.underlying36 HI1.out HY0.out HY1.out HY2.out rfl _ (idsM ws ++ idsM (hs.take k)) rfl (HO2.out.alloc _) x.1.id w2.heap.size 1 rfl (World.cell?_alloc_mark w2 _ 3 (0, 0) 0) hfl (by simp; omega) ?_; intro v3 w3 hown3 hg3 hat3; have HO3 := Lib.hid hown3; have HG3 := Lib.hid hg3; clear hown3 hg3 hat3)
      exact ⟨⟨k + 1, hlt, by simp, by rw [HX.out]; exact HO3.out, (HB2.out.alloc hsz2 _).grown HG3.out (by simp; omega) (fun k e => (HO2.out.lt k e).1)⟩, by dsimp only [intOf]; omega⟩
    · have hkn : k = n := by omega
      subst hkn
      have hk1 : ¬ (k : Int) < (k : Int) := by omega
      have htk : hs.take k = hs := by rw [← HN.out, List.take_length]
      rw [htk] at HO hfl
      clear htk
      go_wp2_with fail
      refine (clSortI w.heap.size _ _ wr HO.out hfl).mono ?_
      rintro e w2 ⟨rfl, ho2, hg2⟩
      have HO2 := Lib.hid ho2
      have HG2 := Lib.hid hg2
      clear ho2 hg2
      go_wp2
      go_ret
      rw [HE.out]
      refine ⟨_, rfl, ?_, HB.out.grown HG2.out hsz (fun k e => (HO.out.lt k e).1)⟩
      have := HO2.out
      rw [sortZ_congr (List.perm_append_comm (l₁ := idsM ws) (l₂ := idsM hs))] at this
      exact this
end Go.Proofs.YtjklhiifjnmedaaGreatDoor
