/- look in plain Lean on claims with their map blocks: it follows the plain law; the claims stay the same, in another order. What holds between two rounds of look; no walk. look: the walk (under way, does not build clean yet). A table as the plain law sees it, with the blocks that are its own; what a call may have changed. Plain theorems. The names of a map, sorted: slices.Sorted(maps.Keys(m)). -/
import Derived.Test.YtjklhiifjnmedaaGreatDoorNmH
import Derived.Test.YtjklhiifjnmedaaGreatDoorLkAll
import Derived.Test.YtjklhiifjnmedaaGreatDoorLkWf
import Derived.StillTailTactics
import Derived.Deep.RegionLaw
import Derived.Deep.DeepCutAuto
import Derived.Deep.AppendLies
import Derived.Test.YtjklhiifjnmedaaGreatDoorNmA
import Derived.Test.YtjklhiifjnmedaaGreatDoorNmE
import Derived.Test.YtjklhiifjnmedaaGreatDoorNmF
import Derived.Test.YtjklhiifjnmedaaGreatDoorNmG
namespace Go.Proofs.YtjklhiifjnmedaaGreatDoor
open P43

structure TM where
  (hs ws : List Cm)
def TM.t (s : TM) : T := ⟨s.hs.map (·.1), s.ws.map (·.1)⟩
def lookM : List Cm → List Cm → List Cm → List Int → TM × List Int
  | h, st, [], out => (⟨h, st⟩, out)
  | h, st, c :: rest, out => if blkC (h ++ st) c = [] then lookM (h ++ [c]) st rest (out ++ [c.1.id]) else lookM h (st ++ [c]) rest out
theorem blkC_fst (ms : List Cm) (c : Cm) : (blkC ms c).map (·.1) = blk (ms.map (·.1)) c.1 := by
  unfold blkC blk
  rw [List.filter_map]
  rfl
theorem blkC_nil (ms : List Cm) (c : Cm) : blkC ms c = [] ↔ blk (ms.map (·.1)) c.1 = [] := by
  rw [← blkC_fst, List.map_eq_nil_iff]
theorem lookM_fst : ∀ (rest h st : List Cm) (out : List Int), ((lookM h st rest out).1.t, (lookM h st rest out).2) = lookGo (h.map (·.1)) (st.map (·.1)) (rest.map (·.1)) out
  | [], h, st, out => rfl
  | c :: rest, h, st, out => by
    rw [lookM, List.map_cons, lookGo]
    have e := blkC_nil (h ++ st) c
    rw [List.map_append] at e
    by_cases hb : blkC (h ++ st) c = []
    · rw [if_pos hb, if_pos (e.1 hb), lookM_fst rest]
      simp
    · rw [if_neg hb, if_neg (fun h => hb (e.2 h)), lookM_fst rest]
      simp
theorem lookM_perm : ∀ (rest h st : List Cm) (out : List Int), ((lookM h st rest out).1.hs ++ (lookM h st rest out).1.ws).Perm (h ++ (st ++ rest))
  | [], h, st, out => by rw [lookM, List.append_nil]
  | c :: rest, h, st, out => by
    rw [lookM]
    split
    · refine (lookM_perm rest (h ++ [c]) st _).trans ?_
      rw [List.append_assoc]
      exact List.Perm.append_left h (by simpa using List.perm_middle.symm)
    · refine (lookM_perm rest h (st ++ [c]) out).trans ?_
      simp
theorem lookM_outs : ∀ (rest h st : List Cm) (out : List Int), (lookM h st rest out).2.length + h.length = out.length + (lookM h st rest out).1.hs.length
  | [], h, st, out => rfl
  | c :: rest, h, st, out => by
    rw [lookM]
    split
    · have := lookM_outs rest (h ++ [c]) st (out ++ [c.1.id])
      simp at this
      omega
    · exact lookM_outs rest h (st ++ [c]) out
theorem blkC_append (a b : List Cm) (c : Cm) : blkC (a ++ b) c = blkC a c ++ blkC b c := List.filter_append ..
end Go.Proofs.YtjklhiifjnmedaaGreatDoor
namespace Go.Proofs.YtjklhiifjnmedaaGreatDoor
open Go.RowKit P43

structure LInv (w wr : World) (B p : Nat) (hs ws h' st pre rest : List Cm) (vh vw outv stv : Value) (outs : List Int) : Prop where
  tab : Tab wr B p h' ws vh vw
  cl : Claims wr B (h' ++ (st ++ rest))
  split : ws = pre ++ rest
  out : OwnI wr w.heap.size outv outs
  still : OwnK wr w.heap.size tC stv st
  movedT : MovedT p NoM w wr
  apo : ∀ k, outv.ownBlock = some k → ¬ FootT wr p k
  aps : ∀ k, stv.ownBlock = some k → ¬ FootT wr p k
  go : lookM h' st rest outs = lookM hs [] ws []
section
variable {w wr w' : World} {B p : Nat} {hs ws h' st pre rest : List Cm} {vh vw outv stv : Value} {outs : List Int}
theorem LInv.start (m : Tbl w B p hs ws vh vw) : LInv w w B p hs ws hs [] [] ws vh vw (.slice none 0 0) (.slice none 0 0) [] :=
  ⟨m.toTab, by simpa using m.maps, rfl, OwnI.nil _ _, OwnK.nil _ _ _, MovedT.refl _ _ _, fun k hk => by simp [Value.ownBlock] at hk, fun k hk => by simp [Value.ownBlock] at hk, rfl⟩
theorem foot_below (hb : Below wr.heap.size wr w') (hp : p < wr.heap.size) {k : Nat} (h : FootT w' p k) : FootT wr p k :=
  ((MovedT.of_below (M := NoM) hb hp).foot k h).elim id fun h2 => by
    rcases h with rfl | ⟨a, b, hblk, hk⟩
    · exact .inl rfl
    · refine .inr ⟨a, b, ?_, hk⟩
      unfold Blk at hblk ⊢
      rw [← hb.block p hp]
      exact hblk
theorem LInv.next (g : LInv w wr B p hs ws h' st pre rest vh vw outv stv outs) (hb : Below wr.heap.size wr w') : LInv w w' B p hs ws h' st pre rest vh vw outv stv outs :=
  ⟨g.tab.below hb, g.cl.below hb, g.split, g.out.below hb, g.still.below hb, g.movedT.trans (MovedT.of_below hb g.tab.box.lt), fun k hk h => g.apo k hk (foot_below hb g.tab.box.lt h), fun k hk h => g.aps k hk (foot_below hb g.tab.box.lt h), g.go⟩
theorem OwnI.setCell {B : Nat} {v : Value} {xs : List Int} (h : OwnI w B v xs) {p : Addr} (hp : v.ownBlock ≠ some p.block) (u : Value) : OwnI (w.setCell p u) B v xs := by
  refine ⟨h.1, ?_⟩
  rcases h.2 with h1 | ⟨g, cap, cur, rfl, a2, a3, a4⟩
  · exact .inl h1
  · refine .inr ⟨g, cap, cur, rfl, a2, ?_, a4⟩
    rw [Below.heap_setCell]
    · exact a3
    · intro e
      exact hp (by simp [Value.ownBlock, e])
theorem OwnI.own {B : Nat} {v : Value} {xs : List Int} (h : OwnI w B v xs) : ∀ k, v.ownBlock = some k → ∃ cs, Blk w k 3 cs := by
  intro k hk
  rcases h.2 with ⟨rfl, _⟩ | ⟨g, cap, cur, rfl, _, hg, _⟩
  · simp [Value.ownBlock] at hk
  · simp [Value.ownBlock] at hk
    subst hk
    exact ⟨_, hg⟩
theorem OwnK.ownC {B : Nat} {v : Value} {ls : List Cm} (h : OwnK w B tC v ls) : ∀ k, v.ownBlock = some k → ∃ cs, Blk w k tC cs := by
  intro k hk
  rcases h.2 with ⟨rfl, _⟩ | ⟨g, cap, cur, rfl, _, hg, _⟩
  · simp [Value.ownBlock] at hk
  · simp [Value.ownBlock] at hk
    subst hk
    exact ⟨_, hg⟩
/-- 't.waiting = still'. -/
theorem LInv.done (g : LInv w wr B p hs ws h' st pre [] vh vw outv stv outs) (hB : B ≤ w.heap.size) :
    Tbl (wr.setCell ⟨p, 1, none⟩ stv) B p h' st vh stv ∧ MovedT p NoM w (wr.setCell ⟨p, 1, none⟩ stv) ∧ OwnI (wr.setCell ⟨p, 1, none⟩ stv) w.heap.size outv outs ∧ ∀ k, outv.ownBlock = some k → ¬ FootT (wr.setCell ⟨p, 1, none⟩ stv) p k := by
  have hvp : stv.ownBlock ≠ some p := fun e => g.aps p e (.inl rfl)
  have hop : outv.ownBlock ≠ some p := fun e => g.apo p e (.inl rfl)
  obtain ⟨n1, n2⟩ := g.tab.box_ne
  have hw : OwnK wr B tC stv st := World.ownsRow.mono g.still hB
  have hcl : Claims wr B (h' ++ st) := by simpa using g.cl
  have ht : Tab (wr.setCell ⟨p, 1, none⟩ stv) B p h' st vh stv := by
    refine ⟨by simpa using g.tab.box.put 1 stv, g.tab.base, g.tab.held.setCell n1 stv, hw.setCell hvp stv, ?_⟩
    rcases h0 : vh.ownBlock with _ | y
    · exact .inl rfl
    · exact .inr (fun e => g.aps y e.symm (g.tab.foot.2 (.inr (.inl h0))))
  refine ⟨⟨ht, hcl.setCell g.tab.box 1 stv⟩, ⟨g.movedT.os, g.movedT.tape, g.movedT.output, by simpa using g.movedT.size, fun k hk hf hm => ?_, fun k hk => ?_⟩, g.out.setCell hop stv, fun k hk h => ?_⟩
  · rw [Below.heap_setCell _ _ _ _ (fun e => hf (.inl e))]
    exact g.movedT.block k hk hf hm
  · rcases ht.foot.1 hk with rfl | h | h
    · exact .inl (.inl rfl)
    · exact g.movedT.foot k (g.tab.foot.2 (.inr (.inl h)))
    · exact .inr (g.still.lt k h).1
  · rcases ht.foot.1 h with rfl | h | h
    · exact hop hk
    · exact g.apo k hk (g.tab.foot.2 (.inr (.inl h)))
    · obtain ⟨c1, b1⟩ := g.out.own k hk
      obtain ⟨c2, b2⟩ := g.still.ownC k h
      exact Blk.ne b1 b2 (by decide) rfl
theorem LInv.sizes (g : LInv w wr B p hs ws h' st pre rest vh vw outv stv outs) : h'.length + (st.length + rest.length) = hs.length + ws.length ∧ outs.length ≤ h'.length := by
  have h1 := (lookM_perm rest h' st outs).length_eq
  have h2 := (lookM_perm ws hs [] []).length_eq
  have h3 := lookM_outs rest h' st outs
  have h4 := lookM_outs ws hs [] []
  rw [g.go] at h1 h3
  simp at h1 h2 h3 h4
  omega
theorem FootT.blk {k : Nat} (m : Tab w B p hs ws vh vw) (h : FootT w p k) : ∃ t cs, Blk w k t cs := by
  rcases m.foot.1 h with rfl | h | h
  · exact ⟨_, _, m.box⟩
  · exact m.held.own k h
  · exact m.wait.own k h
theorem Claims.movedT {l : List Cm} {M : Nat → Prop} (c : Claims w B l) (m : Tab w B p hs ws vh vw) (mv : MovedT p M w w') (hM : ∀ x ∈ l, ¬ M x.2) : Claims w' B l :=
  ⟨fun x hx => (c.ns x hx).heap (mv.block _ (c.ns x hx).lt (fun hf => by obtain ⟨t, cs, hb⟩ := FootT.blk m hf; exact (c.ns x hx).noBlk hb) (hM x hx)), c.lo, c.nd⟩
theorem OwnK.movedT {B2 : Nat} {v : Value} {l : List Cm} {M : Nat → Prop} (h : OwnK w B2 tC v l) (m : MovedT p M w w') (hf : ∀ k, v.ownBlock = some k → ¬ FootT w p k) (hM : ∀ k, v.ownBlock = some k → ¬ M k) : OwnK w' B2 tC v l := by
  refine ⟨h.1, ?_⟩
  rcases h.2 with h1 | ⟨g, cap, cur, rfl, a2, a3, a4⟩
  · exact .inl h1
  · exact .inr ⟨g, cap, cur, rfl, a2, (m.block g (Array.getElem?_eq_some_iff.1 a3).1 (hf g rfl) (hM g rfl)).trans a3, a4⟩
theorem own_apartT {B1 B2 : Nat} {v u : Value} {xs : List Int} {ls : List Cm} (h1 : OwnI w B1 v xs) (h2 : OwnK w B2 tC u ls) : u.ownBlock = none ∨ u.ownBlock ≠ v.ownBlock := by
  rcases hu : u.ownBlock with _ | k
  · exact .inl rfl
  · refine .inr fun e => ?_
    obtain ⟨c1, b1⟩ := h1.own k e.symm
    obtain ⟨c2, b2⟩ := h2.ownC k hu
    exact Blk.ne b1 b2 (by decide) rfl
theorem LInv.give {wc w11 : World} {x : Cm} {vh2 outv' : Value} {o : Obj} (g : LInv w wr B p hs ws h' st pre (x :: rest) vh vw outv stv outs) (hb : blkC (h' ++ st) x = []) (mc : Tab wc B p (h' ++ [x]) ws vh2 vw) (mv : MovedT p NoM wr wc)
    (hg : (wc.alloc o).grownBy w11 outv.ownBlock) (ho : OwnI w11 w.heap.size outv' (outs ++ [x.1.id])) (hat : outv'.ownBlock = outv.ownBlock ∨ outv'.ownBlock = some (wc.alloc o).heap.size) :
    LInv w w11 B p hs ws (h' ++ [x]) st (pre ++ [x]) rest vh2 vw outv' stv (outs ++ [x.1.id]) := by
  have hb1 : Below wc.heap.size wc (wc.alloc o) := below_alloc (Below.refl _ _) o
  have mc1 := mc.below hb1
  have mv1 := mv.trans (MovedT.of_below (M := NoM) hb1 mc.box.lt)
  have hapo : ∀ k, outv.ownBlock = some k → ¬ FootT (wc.alloc o) p k := mv1.out (fun k hk => (g.out.lt k hk).2) g.apo
  have haps : ∀ k, stv.ownBlock = some k → ¬ FootT (wc.alloc o) p k := mv1.out (fun k hk => (g.still.lt k hk).2) g.aps
  have mc2 := mc1.far hg hapo
  have hst1 : OwnK (wc.alloc o) w.heap.size tC stv st := g.still.movedT mv1 g.aps (fun _ _ h => h)
  have hou1 : OwnI (wc.alloc o) w.heap.size outv outs := g.out.movedT mv1 g.apo (fun _ _ h => h)
  have hfoot : ∀ {k}, FootT w11 p k → FootT (wc.alloc o) p k := fun h => mc1.foot.2 (mc2.foot.1 h)
  refine ⟨mc2, ?_, by rw [g.split]; simp, ho, hst1.kept hg (own_apartT hou1 hst1), (g.movedT.trans mv1).grown mc1 hg (fun k hk => ⟨(g.out.lt k hk).1, hapo k hk⟩), fun k hk hf => ?_, fun k hk hf => haps k hk (hfoot hf), ?_⟩
  · have h1 : Claims (wc.alloc o) B (h' ++ (st ++ x :: rest)) := g.cl.movedT g.tab mv1 (fun _ _ h => h)
    refine (h1.grown hg (fun k hk => by obtain ⟨cs, hb⟩ := hou1.own k hk; exact ⟨_, _, hb⟩)).perm ?_
    rw [List.append_assoc]
    refine List.Perm.append_left h' ?_
    exact (List.perm_middle (l₁ := st) (l₂ := rest) (a := x)).symm
  · have hf1 := hfoot hf
    rcases hat with e | e
    · exact hapo k (by rw [← e]; exact hk) hf1
    · rw [e] at hk
      cases hk
      have := (mc1.ge hf1).2
      omega
  · have := g.go
    rw [lookM, if_pos hb] at this
    exact this
theorem LInv.wait {w11 : World} {x : Cm} {stv' : Value} {o : Obj} (g : LInv w wr B p hs ws h' st pre (x :: rest) vh vw outv stv outs) (hb : blkC (h' ++ st) x ≠ [])
    (hg : (wr.alloc o).grownBy w11 stv.ownBlock) (ho : OwnK w11 w.heap.size tC stv' (st ++ [x])) (hat : stv'.ownBlock = stv.ownBlock ∨ stv'.ownBlock = some (wr.alloc o).heap.size) :
    LInv w w11 B p hs ws h' (st ++ [x]) (pre ++ [x]) rest vh vw outv stv' outs := by
  have hb1 : Below wr.heap.size wr (wr.alloc o) := below_alloc (Below.refl _ _) o
  have mc1 := g.tab.below hb1
  have mv1 := MovedT.of_below (M := NoM) hb1 g.tab.box.lt
  have hapo : ∀ k, outv.ownBlock = some k → ¬ FootT (wr.alloc o) p k := mv1.out (fun k hk => (g.out.lt k hk).2) g.apo
  have haps : ∀ k, stv.ownBlock = some k → ¬ FootT (wr.alloc o) p k := mv1.out (fun k hk => (g.still.lt k hk).2) g.aps
  have mc2 := mc1.far hg haps
  have hst1 : OwnK (wr.alloc o) w.heap.size tC stv st := g.still.below hb1
  have hou1 : OwnI (wr.alloc o) w.heap.size outv outs := g.out.below hb1
  have hfoot : ∀ {k}, FootT w11 p k → FootT (wr.alloc o) p k := fun h => mc1.foot.2 (mc2.foot.1 h)
  have hap2 : outv.ownBlock = none ∨ outv.ownBlock ≠ stv.ownBlock := by
    rcases ho2 : outv.ownBlock with _ | k
    · exact .inl rfl
    · rcases own_apartT hou1 hst1 with e | e
      · exact .inr (by rw [e]; simp)
      · exact .inr (by rw [← ho2]; exact Ne.symm e)
  refine ⟨mc2, ?_, by rw [g.split]; simp, hou1.kept hg hap2, ho, (g.movedT.trans mv1).grown mc1 hg (fun k hk => ⟨(g.still.lt k hk).1, haps k hk⟩), fun k hk hf => hapo k hk (hfoot hf), fun k hk hf => ?_, ?_⟩
  · have h1 : Claims (wr.alloc o) B (h' ++ (st ++ x :: rest)) := g.cl.below hb1
    have h2 := h1.grown hg (fun k hk => by obtain ⟨cs, hb⟩ := hst1.ownC k hk; exact ⟨_, _, hb⟩)
    simpa using h2
  · have hf1 := hfoot hf
    rcases hat with e | e
    · exact haps k (by rw [← e]; exact hk) hf1
    · rw [e] at hk
      cases hk
      have := (mc1.ge hf1).2
      omega
  · have := g.go
    rw [lookM, if_neg hb] at this
    exact this
end
end Go.Proofs.YtjklhiifjnmedaaGreatDoor
namespace Go.Proofs.YtjklhiifjnmedaaGreatDoor
open Go.RowKit P43
attribute [local go_sem] ByteArray.mk_append_mk ByteArray.extract_mk mk_index

theorem infoC : (Tryz.prog.info? tC).map (fun i => (i.zero, i.size, i.bytes)) = some (some (.agg #[.int .i64 0, .map none]), 2, 16) := by kernel_rfl
theorem qcells {w : World} {q : Nat} {x : Cm} (h : Blk w q tC (ca x)) : w.cell? ⟨q, 0, none⟩ = some (.int .i64 x.1.id) ∧ w.cell? ⟨q, 1, none⟩ = some (.map (some x.2)) := by
  have h0 := h.cell 0
  have h1 := h.cell 1
  simp [ca] at h0 h1
  exact ⟨h0, h1⟩
/-- What look leaves. -/
def LPost (w : World) (B p : Nat) (r : TM) (outs : List Int) (e : Ending) (w' : World) : Prop := ∃ v vh vw, e = .returned v ∧ OwnI w' w.heap.size v outs ∧ Tbl w' B p r.hs r.ws vh vw ∧ MovedT p NoM w w' ∧ (∀ k, v.ownBlock = some k → ¬ FootT w' p k)
set_option maxRecDepth 100000 in
set_option maxHeartbeats 4000000 in
theorem clLook (B p : Nat) (hs ws : List Cm) (vh vw : Value) (w : World) (m : Tbl w B p hs ws vh vw) (hl : hs.length + ws.length ≤ 100000) :
    Calls Tryz.prog 62 #[.pointer (some ⟨p, 0, none⟩)] w (LPost w B p (lookM hs [] ws []).1 (lookM hs [] ws []).2) := by
  have hlenC : (Tryz.prog.info? tC).map (·.size) = some 2 := by kernel_rfl
  obtain ⟨A, c, rfl, hA⟩ := m.clsW
  have hc := m.box.cell 1
  simp at hc
  have HBB := Lib.hid (show B ≤ w.heap.size from by have h1 := m.box.lt; have h2 := m.base; omega)
  have HG0 := Lib.hid (LInv.start m)
  have HL := Lib.hid hl
  obtain ⟨n, hn⟩ : ∃ n, ws.length = n := ⟨_, rfl⟩
  rw [hn] at hc hA HG0
  have HA := Lib.hid hA
  have HN := Lib.hid hn
  have hn1 : n ≤ 100000 := by omega
  clear m hl hA hn
  go_enter Tryz.func62, Tryz.ntmps62
  go_wp2
  clear hc
  go_loopw [3, 4, 12] (fun ov sv iv wr => ∃ h' st pre rest vh outs, iv = .int .i64 pre.length ∧ LInv w wr B p hs ws h' st pre rest vh (.slice A n c) ov sv outs) (fun _ _ iv _ => n - (intOf iv).toNat)
  case atStart => exact ⟨_, _, _, _, _, _, rfl, HG0.out⟩
  case round =>
    obtain ⟨h', st, pre, rest, vh2, outs, rfl, hin⟩ := hrel
    have HIN := Lib.hid hin
    have hsp := hin.split
    clear hin
    cases rest with
    | nil =>
      have hpn : pre.length = n := by rw [← HN.out, hsp, List.append_nil]
      rw [hpn]
      clear hpn hsp
      have hj : ¬ (n : Int) < (n : Int) := by omega
      obtain ⟨As, cs, rfl, hst⟩ := clsT_of HIN.out.still (fun x hx => HIN.out.cl.ns x (by simp [hx]))
      clear hst
      have hc0 := HIN.out.tab.box.cell 1
      simp at hc0
      have hf0 := HIN.out.tab.box.frozen 1
      go_wp2
      go_ret
      obtain ⟨t1, t2, t3, t4⟩ := HIN.out.done HBB.out
      have hgo := HIN.out.go
      rw [lookM] at hgo
      rw [← hgo]
      exact ⟨_, _, _, rfl, t3, t1, t2, t4⟩
    | cons x rest =>
      have hlt : pre.length < n := by rw [← HN.out, hsp]; simp
      obtain ⟨i, hi⟩ : ∃ i, pre.length = i := ⟨_, rfl⟩
      have hx : ws[i]? = some x := by rw [hsp, ← hi]; simp
      obtain ⟨A9, c9, h9, hq9, -⟩ := HIN.out.tab.wait.cells
      injection h9 with h91 h92 h93
      subst h91
      rw [HN.out] at hq9
      rw [hi] at hlt ⊢
      obtain ⟨b, off, x', rfl, hx', x0, x1⟩ := hq9.at_ hlt
      obtain rfl : x = x' := by rw [hx] at hx'; exact Option.some.inj hx'
      have HX := Lib.hid hx
      have HSP := Lib.hid hsp
      have HI := Lib.hid hi
      have hi1 : (i : Int) < (n : Int) := by omega
      have hi2 : (0 : Int) ≤ (i : Int) := by omega
      clear hx hx' hsp hi hq9 h92 h93
      go_upto_region 6 with (fail)
      obtain ⟨w2, q, e1, e2, hb2, hq⟩ := boxes1 wr tC (ca x)
      unfold ca at e1
      rw [show wr.alloc (.cells #[.int .i64 x.1.id, .map (some x.2)] 61) = w2 from e1, e2]
      have HIN2 := Lib.hid (HIN.out.next hb2)
      have HQ := Lib.hid hq
      have HQE := Lib.hid e2
      clear e1 e2 hb2 hq x0 x1
      have hcl := HIN2.out.cl
      obtain ⟨Ah, ch, rfl, hh⟩ := clsT_of HIN2.out.tab.held (fun y hy => hcl.ns y (by simp [hy]))
      obtain ⟨As, cs, rfl, hst⟩ := clsT_of HIN2.out.still (fun y hy => hcl.ns y (by simp [hy]))
      have hnx := hcl.ns x (by simp)
      have HNX := Lib.hid hnx
      have HH := Lib.hid hh
      have HS := Lib.hid hst
      have hc0 := HIN2.out.tab.box.cell 0
      simp at hc0
      clear hh hst hnx hcl
      go_still_tail 6, (by kernel_rfl)
      refine wpStill_load_cells rfl tC (.tmp 6) rfl ⟨q, 0, none⟩ rfl (ca x) _ (by exact HQ.out.add) Tryz.underlying61 rfl hlenC ?_
      repeat still_step
      try refine wpStill_nil ?_
      go_wp2_with fail
      have hdb : Below w2.heap.size w2 w2.drew := (Below.refl _ w2).drew
      have hkd : KeepT w2.heap.size w2 w2.drew := KeepT.of_below hdb
      have HIND := Lib.hid (HIN2.out.next hdb)
      have hlen := HL.out
      have hcall := clBlocked x h' st h'.length ch st.length cs Ah As w2.drew (hkd.ns HNX.out HNX.out.lt) HNX.out.lt (HH.out.keep hkd) (HS.out.keep hkd) (by have := HIND.out.sizes; omega) (by have := HIND.out.sizes; omega)
      unfold cv at hcall
      refine hcall.mono ?_
      rintro e w3 ⟨hb3, lb, rfl, hs3⟩
      have HIN3 := Lib.hid (HIND.out.next hb3)
      have HQ3 := Lib.hid ((HQ.out.below hdb).below hb3)
      have HSQ := Lib.hid hs3
      clear hcall hb3 hs3 hdb hkd hc0
      go_wp2_with fail
      refine (clFree lb _ w3 HSQ.out).mono ?_
      rintro e w4 ⟨rfl, hb4⟩
      have HIN4 := Lib.hid (HIN3.out.next hb4)
      have HQ4 := Lib.hid (HQ3.out.below hb4)
      clear hb4
      have hsz := HIN4.out.sizes
      simp only [List.length_cons] at hsz
      by_cases hbl : blkC (h' ++ st) x = []
      · have hbl2 : decide (blkC h' x ++ blkC st x = []) = true := by rw [← blkC_append]; simpa using hbl
        have HBL := Lib.hid hbl
        rw [hbl2]
        clear hbl hbl2
        go_upto_region 7 with (fail)
        obtain ⟨hn1p, hn2p⟩ := HIN4.out.tab.box_ne
        obtain ⟨a0, a1⟩ := qcells HQ4.out
        have hc8 := HIN4.out.tab.box.cell 0
        have hf8 := HIN4.out.tab.box.frozen 0
        simp at hc8
        obtain ⟨i0, hi0', hz0, hz1, hz2⟩ := info_parts infoC
        have HI0 := Lib.hid hi0'
        have HZ0 := Lib.hid hz0
        have HZ1 := Lib.hid hz1
        have HZ2 := Lib.hid hz2
        obtain ⟨vh5, hvh5⟩ : ∃ vh5, (Value.slice Ah h'.length ch) = vh5 := ⟨_, rfl⟩
        have HVH := Lib.hid hvh5
        have hB8 : B ≤ w4.heap.size := by have h1 := HIN4.out.tab.box.lt; have h2 := HIN4.out.tab.base; omega
        have hq4 := HQ4.out.lt
        have hp4 := HIN4.out.tab.box.lt
        rw [hvh5] at HIN4 hn1p hc8 ⊢
        have hne1 : some p ≠ vh5.ownBlock := fun e => hn1p e.symm
        have hnf : ¬ FootT w4 p q := fun hf => by
          have hq := HQE.out
          rcases HIN4.out.tab.foot.1 hf with e | e | e
          · have := HIN.out.tab.box.lt; omega
          · have := (HIN.out.tab.held.lt q (by rw [HVH.out]; exact e)).2; omega
          · have := (HIN.out.tab.wait.lt q e).2; omega
        have HNF := Lib.hid hnf
        clear hnf hvh5 hi0' hz0 hz1 hz2 hlenC HIN3 HIND HIN2 HIN HSQ HQ3 HH HS hn2p
        go_cut [31] (fun _ wx => ∃ v, Tab wx B p (h' ++ [x]) ws v (.slice (some ⟨b, off, none⟩) n c) ∧ MovedT p NoM w4 wx)
        case first =>
          go_region_law ((refine step_append_lies _ (by rfl) _ _ _ (by rfl) B tC i0 _ 2 16 Tryz.underlying64 HI0.out HZ0.out HZ1.out HZ2.out rfl (by omega) vh5 h'.length (ccs h') (by rfl) ((HIN4.out.tab.held.alloc _).drew) ⟨w4.heap.size, 0, none⟩ 1 1 (cc x) (by rfl) (by rfl) (World.news_of_block (cs := ca x) (t := tC) (fr := (0, 0)) (heap_alloc_new w4 _)) (cc_one x) (by omega) (by unfold maxLen; omega) (by omega) (by simp; omega) (w4.heap.size + 1) (by simp) ?_; intro gg cap w9 hown9 hgrow hat hlt9; have hb9 := ((((HIN4.out.tab.box.alloc _).drew).grown hgrow hne1)); have hc9 := hb9.cell 0; have hf9 := hb9.frozen 0; simp at hc9; have HP9 := Lib.hid (HIN4.out.tab.push0 (M := NoM) hgrow hown9 hat); clear hb9 hown9 hat hgrow hlt9))
          all_goals (go_wp2; go_meet; case rel => exact ⟨_, HP9.out⟩)
        case rest =>
          obtain ⟨v8, hm9, hv9⟩ := hcut
          have HQ9 := Lib.hid (HQ4.out.movedT hv9 HNF.out (fun h => h))
          have b0 := HQ9.out.cell 0
          simp [ca] at b0
          have HM9 := Lib.hid hm9
          have HV9 := Lib.hid hv9
          have hwle : w.heap.size ≤ wc.heap.size := Nat.le_trans HIN4.out.movedT.size hv9.size
          have HOX := Lib.hid (show OwnI wc w.heap.size u3 outs from HIN4.out.out.movedT hv9 HIN4.out.apo (fun _ _ h => h))
          have hol : outs.length ≤ 1000000 := by omega
          obtain ⟨i1, hi1', hy0, hy1, hy2⟩ := info_parts infoI
          have HI1 := Lib.hid hi1'
          have HY0 := Lib.hid hy0
          have HY1 := Lib.hid hy1
          have HY2 := Lib.hid hy2
          clear hm9 hv9 hi1' hy0 hy1 hy2 a0 a1 hc8 hf8
          go_wp2_with (at_builtin; refine wpList_append_int rfl (.tmp 34) (.tmp 37) _ rfl w.heap.size i1 _ Tryz.underlying36 HI1.out HY0.out HY1.out HY2.out rfl _ outs rfl (HOX.out.alloc _) x.1.id wc.heap.size 1 rfl (World.cell?_alloc_mark wc _ 3 (0, 0) 0) hol (by simp; omega) ?_; intro v11 w11 hown11 hg11 hat11; have HGV := Lib.hid (HIN4.out.give HBL.out HM9.out HV9.out hg11 hown11 hat11); clear hown11 hg11 hat11)
          go_roundw
          case rel => exact ⟨_, _, pre ++ [x], _, _, _, by rw [List.length_append, HI.out]; go_num, HGV.out⟩
          case measure => simp only [intOf]; omega
      · have hbl2 : decide (blkC h' x ++ blkC st x = []) = false := by rw [← blkC_append]; simpa using hbl
        have HBL := Lib.hid hbl
        rw [hbl2]
        clear hbl hbl2
        obtain ⟨i0, hi0', hz0, hz1, hz2⟩ := info_parts infoC
        have HI0 := Lib.hid hi0'
        have HZ0 := Lib.hid hz0
        have HZ1 := Lib.hid hz1
        have HZ2 := Lib.hid hz2
        have hst4 : st.length ≤ 1000000 := by omega
        have hsw : w.heap.size ≤ w4.heap.size := HIN4.out.movedT.size
        obtain ⟨sv5, hsv5⟩ : ∃ sv5, (Value.slice As st.length cs) = sv5 := ⟨_, rfl⟩
        rw [hsv5] at HIN4 ⊢
        obtain ⟨a0, a1⟩ := qcells HQ4.out
        clear hsv5 hi0' hz0 hz1 hz2 hlenC
        go_wp2_with (at_builtin; refine wpList_append_cm rfl (.tmp 39) (.tmp 41) _ rfl w.heap.size tC i0 _ 16 Tryz.underlying64 HI0.out HZ0.out HZ1.out HZ2.out rfl (by omega) _ st rfl (HIN4.out.still.alloc _) x w4.heap.size 0 1 rfl (ClsAt.lit1 w4 tC x) hst4 (by simp; omega) ?_; intro v11 w11 hown11 hg11 hat11 _; have HGV := Lib.hid (HIN4.out.wait HBL.out hg11 hown11 hat11); clear hown11 hg11 hat11)
        go_roundw
        case rel => exact ⟨_, _, pre ++ [x], _, _, _, by rw [List.length_append, HI.out]; go_num, HGV.out⟩
        case measure => simp only [intOf]; omega
end Go.Proofs.YtjklhiifjnmedaaGreatDoor
namespace Go.Proofs.YtjklhiifjnmedaaGreatDoor
open Go.RowKit P43

def fstT (hs ws : List Cm) : T := ⟨hs.map (·.1), ws.map (·.1)⟩
/-- The table at p is 't'; F tells its blocks. -/
def TT (w : World) (B p : Nat) (t : T) (F : Nat → Prop) : Prop :=
  ∃ hs ws vh vw, Tbl w B p hs ws vh vw ∧ fstT hs ws = t ∧ ∀ k, F k ↔ (FootT w p k ∨ ∃ x ∈ hs ++ ws, x.2 = k)
section
variable {w w1 w' : World} {B p : Nat} {t t' : T} {F F1 F' : Nat → Prop}
theorem TT.ge (h : TT w B p t F) {k : Nat} (hk : F k) : B ≤ k ∧ k < w.heap.size := by
  obtain ⟨hs, ws, vh, vw, m, e, hF⟩ := h
  rcases (hF k).1 hk with h1 | ⟨x, hx, rfl⟩
  · exact m.ge h1
  · exact ⟨m.maps.lo x hx, m.mapLt hx⟩
theorem TT.self (h : TT w B p t F) : F p := by
  obtain ⟨_, _, _, _, _, _, hF⟩ := h
  exact (hF p).2 (.inl (.inl rfl))
theorem Tbl.same {hs ws : List Cm} {vh vw : Value} (m : Tbl w B p hs ws vh vw) (hb : ∀ k, FootT w p k ∨ (∃ x ∈ hs ++ ws, x.2 = k) → w'.heap[k]? = w.heap[k]?) : Tbl w' B p hs ws vh vw := by
  have key : ∀ {v : Value} {ls : List Cm}, OwnK w B tC v ls → (∀ k, v.ownBlock = some k → w'.heap[k]? = w.heap[k]?) → OwnK w' B tC v ls := by
    intro v ls h hk
    refine ⟨h.1, ?_⟩
    rcases h.2 with h1 | ⟨g, cap, cur, rfl, a2, a3, a4⟩
    · exact .inl h1
    · exact .inr ⟨g, cap, cur, rfl, a2, (hk g rfl).trans a3, a4⟩
  refine ⟨⟨(hb p (.inl (.inl rfl))).trans m.box, m.base, key m.held fun k hk => hb k (.inl (m.foot.2 (.inr (.inl hk)))), key m.wait fun k hk => hb k (.inl (m.foot.2 (.inr (.inr hk)))), m.apart⟩, ⟨fun x hx => (m.maps.ns x hx).heap (hb _ (.inr ⟨x, hx, rfl⟩)), m.maps.lo, m.maps.nd⟩⟩
theorem TT.same (h : TT w B p t F) (hb : ∀ k, F k → w'.heap[k]? = w.heap[k]?) : TT w' B p t F := by
  obtain ⟨hs, ws, vh, vw, m, e, hF⟩ := h
  have m' := m.same (fun k hk => hb k ((hF k).2 hk))
  exact ⟨hs, ws, vh, vw, m', e, fun k => by rw [hF, m.foot, m'.foot]⟩
theorem TT.below (h : TT w B p t F) (hb : Below w.heap.size w w') : TT w' B p t F := h.same fun k hk => hb.block k (h.ge hk).2
/-- Another table is left alone. -/
theorem TT.other {B2 p2 : Nat} {t2 : T} {F2 : Nat → Prop} (h : TT w B2 p2 t2 F2) (c : Chg F F' w w') (hd : ∀ k, F2 k → ¬ F k) : TT w' B2 p2 t2 F2 := h.same fun k hk => c.block k (h.ge hk).2 (hd k hk)
theorem Chg.out (c : Chg F F' w w') {k : Nat} (hk : k < w.heap.size) (hf : ¬ F k) : ¬ F' k := fun h => (c.sub k h).elim hf (fun h => by omega)
/-- A write to a block of the call's own leaves a table alone. -/
theorem TT.grown (h : TT w B p t F) {row : Option Nat} (hg : w.grownBy w' row) (hr : ∀ k, row = some k → ¬ F k) : TT w' B p t F := h.same fun k hk => hg.block k (h.ge hk).2 (fun e => hr k e.symm hk)
theorem Chg.grown {row : Option Nat} (hg : w.grownBy w' row) (hr : ∀ k, row = some k → F k) : Chg F F w w' := ⟨hg.os, hg.tape, hg.output, hg.size, fun k hk hf => hg.block k hk (fun e => hf (hr k e.symm)), fun _ h => .inl h⟩
theorem TT.of_moved {hs ws hs' ws' : List Cm} {vh' vw' : Value} {M : Nat → Prop} (hF : ∀ k, F k ↔ (FootT w p k ∨ ∃ x ∈ hs ++ ws, x.2 = k)) (m' : Tbl w' B p hs' ws' vh' vw') (mv : MovedT p M w w') (hM : ∀ k, M k → ∃ x ∈ hs ++ ws, x.2 = k)
    (hx : ∀ x ∈ hs' ++ ws', (∃ y ∈ hs ++ ws, y.2 = x.2) ∨ w.heap.size ≤ x.2) : ∃ F', TT w' B p (fstT hs' ws') F' ∧ Chg F F' w w' := by
  refine ⟨fun k => FootT w' p k ∨ ∃ x ∈ hs' ++ ws', x.2 = k, ⟨hs', ws', vh', vw', m', rfl, fun k => Iff.rfl⟩, mv.os, mv.tape, mv.output, mv.size, fun k hk hf => ?_, fun k hk => ?_⟩
  · rw [hF] at hf
    exact mv.block k hk (fun h => hf (.inl h)) (fun h => hf (.inr (hM k h)))
  · rw [hF]
    rcases hk with hk | ⟨x, hx', rfl⟩
    · rcases mv.foot k hk with h | h
      · exact .inl (.inl h)
      · exact .inr h
    · rcases hx x hx' with h | h
      · exact .inl (.inr h)
      · exact .inr h
theorem OwnI.chg {B2 : Nat} {v : Value} {xs : List Int} (h : OwnI w B2 v xs) (c : Chg F F' w w') (hf : ∀ k, v.ownBlock = some k → ¬ F k) : OwnI w' B2 v xs := by
  refine ⟨h.1, ?_⟩
  rcases h.2 with h1 | ⟨g, cap, cur, rfl, a2, a3, a4⟩
  · exact .inl h1
  · exact .inr ⟨g, cap, cur, rfl, a2, (c.block g (Array.getElem?_eq_some_iff.1 a3).1 (hf g rfl)).trans a3, a4⟩
end
/-- What a call that changes the table leaves: the value handed back by R, the table t'. -/
def TPost (F : Nat → Prop) (w : World) (B p : Nat) (t' : T) (R : Ending → World → Prop) (e : Ending) (w' : World) : Prop := R e w' ∧ ∃ F', TT w' B p t' F' ∧ Chg F F' w w'
end Go.Proofs.YtjklhiifjnmedaaGreatDoor
namespace Go.Proofs.YtjklhiifjnmedaaGreatDoor
open Go.RowKit Go.Maps Go.Sort Go.Shelf P43

theorem strKeys_spec {P : Program} {k : TypeId} {R : Value → Option (DataW Unit × List MemPlace)} {w : World} {b n : Nat} {D0 : DataW Unit} (hown : w.ownsMap P k R b n D0) (hk : P.underlying k = some .string) :
    (strKeys D0).Nodup ∧ ∀ x, x ∈ strKeys D0 ↔ has D0 (.string x) = true := by
  obtain ⟨es, hD, hpw, _⟩ := hown.entries (string_keyed hk)
  obtain ⟨es', hD', hko⟩ := hown.keysOf
  obtain rfl : es = es' := by rw [hD] at hD'; simpa using hD'
  subst hD
  have hkk : ∀ p ∈ es, ∃ x, p.1 = .string x := fun p hp => by
    obtain ⟨v, hv⟩ := hko p hp
    rw [keyOf_string hk] at hv
    unfold mapKey at hv
    simp only [hk] at hv
    cases v <;> simp at hv
    exact ⟨_, hv.2.symm⟩
  constructor
  · show (es.map fun p => strOf p.1).Nodup
    refine List.pairwise_map.2 (hpw.imp_of_mem fun {p q} hp' hq' hne e => hne ?_)
    obtain ⟨a, ha⟩ := hkk p hp'
    obtain ⟨b, hb⟩ := hkk q hq'
    rw [ha, hb] at e ⊢
    exact congrArg _ e
  · intro x
    rw [has_eq, List.any_eq_true]
    show x ∈ (es.map fun p => strOf p.1) ↔ _
    rw [List.mem_map]
    constructor
    · rintro ⟨p, hp', rfl⟩
      obtain ⟨a, ha⟩ := hkk p hp'
      exact ⟨p, hp', by rw [ha]; simp [Lit.sameKey, strOf]⟩
    · rintro ⟨p, hp', hs⟩
      obtain ⟨a, ha⟩ := hkk p hp'
      rw [ha] at hs
      exact ⟨p, hp', by rw [ha]; simpa [Lit.sameKey, strOf] using hs⟩
theorem sortsS (m : Nat) : AnyZ.SortsIn Tryz.prog Tryz.sortedS_ren Fence.wide m :=
  ⟨fun blk off cap ss W hH hblk hsz => callsIn_wide.2 (AnyM.slices_Sort_string Tryz.sortS blk off cap ss W hH hblk hsz),
   fun p cap W => callsIn_wide.2 (AnyM.slices_Sort_string_none Tryz.sortS p cap W)⟩
theorem clKeys (mb : Option Nat) (W : World) : Calls Tryz.prog 34 #[.map mb] W fun e w' => e = .returned (.func (.func 65) #[] #[.pointer (some ⟨W.heap.size, 0, none⟩)]) ∧ w' = W.alloc (.cells #[.map mb] 59) :=
  (callsIn_wide (n := 5)).1 (AnyZ.keys_in Tryz.keysS Fence.wide 5 trivial rfl mb W)
theorem clSorted (b n : Nat) (M : Nm → Option Bool) (w : World) (h : NMap w Tryz.prog 9 4 b n M) (hn : n ≤ 1000000) :
    Calls Tryz.prog 33 #[.func (.func 65) #[] #[.pointer (some ⟨w.heap.size, 0, none⟩)]] (w.alloc (.cells #[.map (some b)] 59)) fun e w' => ∃ (v : Value) (ss : List Nm), e = .returned v ∧ ss.Nodup ∧ (∀ s, s ∈ ss ↔ (M s).isSome = true) ∧ w'.ownsRow w.heap.size 9 1 v ss.length ((ss.mergeSort fun x y => decide (x ≤ y)).map encStr) ∧ Below w.heap.size w w' := by
  obtain ⟨D0, hown, h2, h3⟩ := h.own
  obtain ⟨k1, k2⟩ := strKeys_spec hown Tryz.underlying9
  have hsz := hown.size_le
  have hbl := hown.lt
  have hseq : SeqGives Fence.wide 2 Tryz.prog 65 #[.pointer (some ⟨w.heap.size, 0, none⟩)] encStr (fun ss => ss.Perm (strKeys D0)) (Maps.size D0) (w.alloc (.cells #[.map (some b)] 59)) :=
    AnyZ.keys_gives (ρ := Tryz.keysS_ren) { Tryz.keysS with } Fence.wide _ trivial rfl (by omega) w.heap.size b n D0 _ (by simp) (by simp) (by
      obtain ⟨es, clock, hb, Ft, hs, hD⟩ := hown
      exact ⟨es, clock, (Below.heap_alloc _ _ b hbl).trans hb, Ft, hs, hD⟩)
  have cS := AnyZ.sorted_in Tryz.sortedS Fence.wide 5 trivial trivial trivial trivial rfl (by omega) (sortsS _) (enters_of Tryz.func64 (by kernel_rfl) rfl) 65 #[.pointer (some ⟨w.heap.size, 0, none⟩)] trivial (enters_of Tryz.func65 (by kernel_rfl) rfl) _ _ (by unfold maxLen; omega) (by omega) _ hseq
  refine ((callsIn_wide (n := 5)).1 cS).mono ?_
  rintro e w' ⟨v, ss, rfl, hS, hrow, hnil, hb⟩
  refine ⟨v, ss, rfl, hS.nodup_iff.2 k1, fun s => ?_, ?_, ?_⟩
  · rw [hS.mem_iff, k2, h2]
  · have hle : w.heap.size ≤ (w.alloc (.cells #[.map (some b)] 59)).heap.size := by simp
    exact World.ownsRow.mono hrow hle
  · exact below_then_ (below_alloc (Below.refl _ _) _) hb
end Go.Proofs.YtjklhiifjnmedaaGreatDoor
