/- What holds between two rounds of look; no walk. -/
import Derived.Test.YtojbddcbnnbklaaGreatDoorClLookP
namespace Go.Proofs.YtojbddcbnnbklaaGreatDoor
open Go.RowKit P43

structure LInv (w wr : World) (B p : Nat) (hs ws h' st pre rest : List Cm) (vh vw outv stv : Value) (outs : List Int) : Prop where
  tab : Tab wr B p h' ws vh vw
  cl : Claims wr B (h' ++ (st ++ rest))
  split : ws = pre ++ rest
  out : OwnI wr w.heap.size outv outs
  still : OwnK wr w.heap.size tC stv st
  moved : Moved p NoM w wr
  apo : ∀ k, outv.ownBlock = some k → ¬ Foot wr p k
  aps : ∀ k, stv.ownBlock = some k → ¬ Foot wr p k
  go : lookM h' st rest outs = lookM hs [] ws []
section
variable {w wr w' : World} {B p : Nat} {hs ws h' st pre rest : List Cm} {vh vw outv stv : Value} {outs : List Int}
theorem LInv.start (m : Tbl w B p hs ws vh vw) : LInv w w B p hs ws hs [] [] ws vh vw (.slice none 0 0) (.slice none 0 0) [] :=
  ⟨m.toTab, by simpa using m.maps, rfl, OwnI.nil _ _, OwnK.nil _ _ _, Moved.refl _ _ _, fun k hk => by simp [Value.ownBlock] at hk, fun k hk => by simp [Value.ownBlock] at hk, rfl⟩
theorem foot_below (hb : Below wr.heap.size wr w') (hp : p < wr.heap.size) {k : Nat} (h : Foot w' p k) : Foot wr p k :=
  ((Moved.of_below (M := NoM) hb hp).foot k h).elim id fun h2 => by
    rcases h with rfl | ⟨a, b, hblk, hk⟩
    · exact .inl rfl
    · refine .inr ⟨a, b, ?_, hk⟩
      unfold Blk at hblk ⊢
      rw [← hb.block p hp]
      exact hblk
theorem LInv.next (g : LInv w wr B p hs ws h' st pre rest vh vw outv stv outs) (hb : Below wr.heap.size wr w') : LInv w w' B p hs ws h' st pre rest vh vw outv stv outs :=
  ⟨g.tab.below hb, g.cl.below hb, g.split, g.out.below hb, g.still.below hb, g.moved.trans (Moved.of_below hb g.tab.box.lt), fun k hk h => g.apo k hk (foot_below hb g.tab.box.lt h), fun k hk h => g.aps k hk (foot_below hb g.tab.box.lt h), g.go⟩
theorem OwnI.setCell {B : Nat} {v : Value} {xs : List Int} (h : OwnI w B v xs) {p : Addr} (hp : v.ownBlock ≠ some p.block) (u : Value) : OwnI (w.setCell p u) B v xs := by
  refine ⟨h.1, ?_⟩
  rcases h.2 with h1 | ⟨g, cap, cur, rfl, a2, a3, a4⟩
  · exact .inl h1
  · refine .inr ⟨g, cap, cur, rfl, a2, ?_, a4⟩
    rw [Below.heap_setCell]
    · exact a3
    · intro e
      exact hp (by simp [Value.ownBlock, e])
theorem OwnI.own {B : Nat} {v : Value} {xs : List Int} (h : OwnI w B v xs) : ∀ k, v.ownBlock = some k → ∃ cs, Blk w k 3 cs := by
  intro k hk
  rcases h.2 with ⟨rfl, _⟩ | ⟨g, cap, cur, rfl, _, hg, _⟩
  · simp [Value.ownBlock] at hk
  · simp [Value.ownBlock] at hk
    subst hk
    exact ⟨_, hg⟩
theorem OwnK.ownC {B : Nat} {v : Value} {ls : List Cm} (h : OwnK w B tC v ls) : ∀ k, v.ownBlock = some k → ∃ cs, Blk w k tC cs := by
  intro k hk
  rcases h.2 with ⟨rfl, _⟩ | ⟨g, cap, cur, rfl, _, hg, _⟩
  · simp [Value.ownBlock] at hk
  · simp [Value.ownBlock] at hk
    subst hk
    exact ⟨_, hg⟩
/-- 't.waiting = still'. -/
theorem LInv.done (g : LInv w wr B p hs ws h' st pre [] vh vw outv stv outs) (hB : B ≤ w.heap.size) :
    Tbl (wr.setCell ⟨p, 1, none⟩ stv) B p h' st vh stv ∧ Moved p NoM w (wr.setCell ⟨p, 1, none⟩ stv) ∧ OwnI (wr.setCell ⟨p, 1, none⟩ stv) w.heap.size outv outs ∧ ∀ k, outv.ownBlock = some k → ¬ Foot (wr.setCell ⟨p, 1, none⟩ stv) p k := by
  have hvp : stv.ownBlock ≠ some p := fun e => g.aps p e (.inl rfl)
  have hop : outv.ownBlock ≠ some p := fun e => g.apo p e (.inl rfl)
  obtain ⟨n1, n2⟩ := g.tab.box_ne
  have hw : OwnK wr B tC stv st := World.ownsRow.mono g.still hB
  have hcl : Claims wr B (h' ++ st) := by simpa using g.cl
  have ht : Tab (wr.setCell ⟨p, 1, none⟩ stv) B p h' st vh stv := by
    refine ⟨by simpa using g.tab.box.put 1 stv, g.tab.base, g.tab.held.setCell n1 stv, hw.setCell hvp stv, ?_⟩
    rcases h0 : vh.ownBlock with _ | y
    · exact .inl rfl
    · exact .inr (fun e => g.aps y e.symm (g.tab.foot.2 (.inr (.inl h0))))
  refine ⟨⟨ht, hcl.setCell g.tab.box 1 stv⟩, ⟨g.moved.os, g.moved.tape, g.moved.output, by simpa using g.moved.size, fun k hk hf hm => ?_, fun k hk => ?_⟩, g.out.setCell hop stv, fun k hk h => ?_⟩
  · rw [Below.heap_setCell _ _ _ _ (fun e => hf (.inl e))]
    exact g.moved.block k hk hf hm
  · rcases ht.foot.1 hk with rfl | h | h
    · exact .inl (.inl rfl)
    · exact g.moved.foot k (g.tab.foot.2 (.inr (.inl h)))
    · exact .inr (g.still.lt k h).1
  · rcases ht.foot.1 h with rfl | h | h
    · exact hop hk
    · exact g.apo k hk (g.tab.foot.2 (.inr (.inl h)))
    · obtain ⟨c1, b1⟩ := g.out.own k hk
      obtain ⟨c2, b2⟩ := g.still.ownC k h
      exact Blk.ne b1 b2 (by decide) rfl
theorem LInv.sizes (g : LInv w wr B p hs ws h' st pre rest vh vw outv stv outs) : h'.length + (st.length + rest.length) = hs.length + ws.length ∧ outs.length ≤ h'.length := by
  have h1 := (lookM_perm rest h' st outs).length_eq
  have h2 := (lookM_perm ws hs [] []).length_eq
  have h3 := lookM_outs rest h' st outs
  have h4 := lookM_outs ws hs [] []
  rw [g.go] at h1 h3
  simp at h1 h2 h3 h4
  omega
theorem Foot.blk {k : Nat} (m : Tab w B p hs ws vh vw) (h : Foot w p k) : ∃ t cs, Blk w k t cs := by
  rcases m.foot.1 h with rfl | h | h
  · exact ⟨_, _, m.box⟩
  · exact m.held.own k h
  · exact m.wait.own k h
theorem Claims.moved {l : List Cm} {M : Nat → Prop} (c : Claims w B l) (m : Tab w B p hs ws vh vw) (mv : Moved p M w w') (hM : ∀ x ∈ l, ¬ M x.2) : Claims w' B l :=
  ⟨fun x hx => (c.ns x hx).heap (mv.block _ (c.ns x hx).lt (fun hf => by obtain ⟨t, cs, hb⟩ := Foot.blk m hf; exact (c.ns x hx).noBlk hb) (hM x hx)), c.lo, c.nd⟩
theorem OwnK.moved {B2 : Nat} {v : Value} {l : List Cm} {M : Nat → Prop} (h : OwnK w B2 tC v l) (m : Moved p M w w') (hf : ∀ k, v.ownBlock = some k → ¬ Foot w p k) (hM : ∀ k, v.ownBlock = some k → ¬ M k) : OwnK w' B2 tC v l := by
  refine ⟨h.1, ?_⟩
  rcases h.2 with h1 | ⟨g, cap, cur, rfl, a2, a3, a4⟩
  · exact .inl h1
  · exact .inr ⟨g, cap, cur, rfl, a2, (m.block g (Array.getElem?_eq_some_iff.1 a3).1 (hf g rfl) (hM g rfl)).trans a3, a4⟩
theorem own_apart {B1 B2 : Nat} {v u : Value} {xs : List Int} {ls : List Cm} (h1 : OwnI w B1 v xs) (h2 : OwnK w B2 tC u ls) : u.ownBlock = none ∨ u.ownBlock ≠ v.ownBlock := by
  rcases hu : u.ownBlock with _ | k
  · exact .inl rfl
  · refine .inr fun e => ?_
    obtain ⟨c1, b1⟩ := h1.own k e.symm
    obtain ⟨c2, b2⟩ := h2.ownC k hu
    exact Blk.ne b1 b2 (by decide) rfl
theorem LInv.give {wc w11 : World} {x : Cm} {vh2 outv' : Value} {o : Obj} (g : LInv w wr B p hs ws h' st pre (x :: rest) vh vw outv stv outs) (hb : blkC (h' ++ st) x = []) (mc : Tab wc B p (h' ++ [x]) ws vh2 vw) (mv : Moved p NoM wr wc)
    (hg : (wc.alloc o).grownBy w11 outv.ownBlock) (ho : OwnI w11 w.heap.size outv' (outs ++ [x.1.id])) (hat : outv'.ownBlock = outv.ownBlock ∨ outv'.ownBlock = some (wc.alloc o).heap.size) :
    LInv w w11 B p hs ws (h' ++ [x]) st (pre ++ [x]) rest vh2 vw outv' stv (outs ++ [x.1.id]) := by
  have hb1 : Below wc.heap.size wc (wc.alloc o) := below_alloc (Below.refl _ _) o
  have mc1 := mc.below hb1
  have mv1 := mv.trans (Moved.of_below (M := NoM) hb1 mc.box.lt)
  have hapo : ∀ k, outv.ownBlock = some k → ¬ Foot (wc.alloc o) p k := mv1.out (fun k hk => (g.out.lt k hk).2) g.apo
  have haps : ∀ k, stv.ownBlock = some k → ¬ Foot (wc.alloc o) p k := mv1.out (fun k hk => (g.still.lt k hk).2) g.aps
  have mc2 := mc1.far hg hapo
  have hst1 : OwnK (wc.alloc o) w.heap.size tC stv st := g.still.moved mv1 g.aps (fun _ _ h => h)
  have hou1 : OwnI (wc.alloc o) w.heap.size outv outs := g.out.moved mv1 g.apo (fun _ _ h => h)
  have hfoot : ∀ {k}, Foot w11 p k → Foot (wc.alloc o) p k := fun h => mc1.foot.2 (mc2.foot.1 h)
  refine ⟨mc2, ?_, by rw [g.split]; simp, ho, hst1.kept hg (own_apart hou1 hst1), (g.moved.trans mv1).grown mc1 hg (fun k hk => ⟨(g.out.lt k hk).1, hapo k hk⟩), fun k hk hf => ?_, fun k hk hf => haps k hk (hfoot hf), ?_⟩
  · have h1 : Claims (wc.alloc o) B (h' ++ (st ++ x :: rest)) := g.cl.moved g.tab mv1 (fun _ _ h => h)
    refine (h1.grown hg (fun k hk => by obtain ⟨cs, hb⟩ := hou1.own k hk; exact ⟨_, _, hb⟩)).perm ?_
    rw [List.append_assoc]
    refine List.Perm.append_left h' ?_
    exact (List.perm_middle (l₁ := st) (l₂ := rest) (a := x)).symm
  · have hf1 := hfoot hf
    rcases hat with e | e
    · exact hapo k (by rw [← e]; exact hk) hf1
    · rw [e] at hk
      cases hk
      have := (mc1.ge hf1).2
      omega
  · have := g.go
    rw [lookM, if_pos hb] at this
    exact this
theorem LInv.wait {w11 : World} {x : Cm} {stv' : Value} {o : Obj} (g : LInv w wr B p hs ws h' st pre (x :: rest) vh vw outv stv outs) (hb : blkC (h' ++ st) x ≠ [])
    (hg : (wr.alloc o).grownBy w11 stv.ownBlock) (ho : OwnK w11 w.heap.size tC stv' (st ++ [x])) (hat : stv'.ownBlock = stv.ownBlock ∨ stv'.ownBlock = some (wr.alloc o).heap.size) :
    LInv w w11 B p hs ws h' (st ++ [x]) (pre ++ [x]) rest vh vw outv stv' outs := by
  have hb1 : Below wr.heap.size wr (wr.alloc o) := below_alloc (Below.refl _ _) o
  have mc1 := g.tab.below hb1
  have mv1 := Moved.of_below (M := NoM) hb1 g.tab.box.lt
  have hapo : ∀ k, outv.ownBlock = some k → ¬ Foot (wr.alloc o) p k := mv1.out (fun k hk => (g.out.lt k hk).2) g.apo
  have haps : ∀ k, stv.ownBlock = some k → ¬ Foot (wr.alloc o) p k := mv1.out (fun k hk => (g.still.lt k hk).2) g.aps
  have mc2 := mc1.far hg haps
  have hst1 : OwnK (wr.alloc o) w.heap.size tC stv st := g.still.below hb1
  have hou1 : OwnI (wr.alloc o) w.heap.size outv outs := g.out.below hb1
  have hfoot : ∀ {k}, Foot w11 p k → Foot (wr.alloc o) p k := fun h => mc1.foot.2 (mc2.foot.1 h)
  have hap2 : outv.ownBlock = none ∨ outv.ownBlock ≠ stv.ownBlock := by
    rcases ho2 : outv.ownBlock with _ | k
    · exact .inl rfl
    · rcases own_apart hou1 hst1 with e | e
      · exact .inr (by rw [e]; simp)
      · exact .inr (by rw [← ho2]; exact Ne.symm e)
  refine ⟨mc2, ?_, by rw [g.split]; simp, hou1.kept hg hap2, ho, (g.moved.trans mv1).grown mc1 hg (fun k hk => ⟨(g.still.lt k hk).1, haps k hk⟩), fun k hk hf => hapo k hk (hfoot hf), fun k hk hf => ?_, ?_⟩
  · have h1 : Claims (wr.alloc o) B (h' ++ (st ++ x :: rest)) := g.cl.below hb1
    have h2 := h1.grown hg (fun k hk => by obtain ⟨cs, hb⟩ := hst1.ownC k hk; exact ⟨_, _, hb⟩)
    simpa using h2
  · have hf1 := hfoot hf
    rcases hat with e | e
    · exact haps k (by rw [← e]; exact hk) hf1
    · rw [e] at hk
      cases hk
      have := (mc1.ge hf1).2
      omega
  · have := g.go
    rw [lookM, if_neg hb] at this
    exact this
end
end Go.Proofs.YtojbddcbnnbklaaGreatDoor
