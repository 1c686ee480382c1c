/- The table in memory: its box, two rows of claims, a map for each claim; what an operation leaves untouched. -/
import Derived.Test.YtojbddcbnnbklaaGreatDoorClFree
namespace Go.Proofs.YtojbddcbnnbklaaGreatDoor
open Go.RowKit P43

abbrev tT : TypeId := 62
/-- Claims whose maps lie in blocks of their own, from B on. -/
structure Claims (w : World) (B : Nat) (l : List Cm) : Prop where
  ns : ∀ m ∈ l, NsAt w m
  lo : ∀ m ∈ l, B ≤ m.2
  nd : (l.map (·.2)).Nodup
/-- The table at block p holds 'hs' and has 'ws' waiting; its memory lies in blocks from B on. -/
structure Tab (w : World) (B p : Nat) (hs ws : List Cm) (vh vw : Value) : Prop where
  box : Blk w p tT #[vh, vw]
  base : B ≤ p
  held : OwnK w B tC vh hs
  wait : OwnK w B tC vw ws
  apart : vh.ownBlock = none ∨ vh.ownBlock ≠ vw.ownBlock
/-- A table, its claims' maps with it. -/
structure Tbl (w : World) (B p : Nat) (hs ws : List Cm) (vh vw : Value) : Prop extends Tab w B p hs ws vh vw where
  maps : Claims w B (hs ++ ws)
/-- Block k holds cells of the table's. -/
def Foot (w : World) (p k : Nat) : Prop := k = p ∨ ∃ vh vw, Blk w p tT #[vh, vw] ∧ (vh.ownBlock = some k ∨ vw.ownBlock = some k)
/-- From w to w' only the table's cells and the blocks M may have changed; its cells lie in blocks that it had, or in new ones. -/
structure Moved (p : Nat) (M : Nat → Prop) (w w' : World) : Prop where
  os : w'.os = w.os
  tape : w'.tape = w.tape
  output : w'.output = w.output
  size : w.heap.size ≤ w'.heap.size
  block : ∀ k, k < w.heap.size → ¬ Foot w p k → ¬ M k → w'.heap[k]? = w.heap[k]?
  foot : ∀ k, Foot w' p k → Foot w p k ∨ w.heap.size ≤ k
def NoM : Nat → Prop := fun _ => False
theorem NsAt.lt {w : World} {m : Cm} (h : NsAt w m) : m.2 < w.heap.size := by
  obtain ⟨D, ⟨es, clock, h0, F, hs, hD⟩, h2, h3⟩ := h.1.own
  exact (Array.getElem?_eq_some_iff.1 h0).1
theorem NsAt.heap {w w' : World} {m : Cm} (h : NsAt w m) (e : w'.heap[m.2]? = w.heap[m.2]?) : NsAt w' m := by
  refine ⟨?_, h.2⟩
  obtain ⟨D, ⟨es, clock, h0, F, hs, hD⟩, h2, h3⟩ := h.1.own
  exact ⟨D, ⟨es, clock, e.trans h0, F, hs, hD⟩, h2, h3⟩
theorem NsAt.noBlk {w : World} {m : Cm} (h : NsAt w m) {t : TypeId} {cs : Array Value} (hb : Blk w m.2 t cs) : False := by
  obtain ⟨D, ⟨es, clock, h0, F, hs, hD⟩, h2, h3⟩ := h.1.own
  have := hb.symm.trans h0
  simp at this
theorem Claims.below {w w' : World} {B : Nat} {l : List Cm} (h : Claims w B l) (hb : Below w.heap.size w w') : Claims w' B l := ⟨fun x hx => (h.ns x hx).below hb, h.lo, h.nd⟩
theorem Claims.grown {w w' : World} {B : Nat} {l : List Cm} (h : Claims w B l) {row : Option Nat} (hg : w.grownBy w' row) (hr : ∀ k, row = some k → ∃ t cs, Blk w k t cs) : Claims w' B l :=
  ⟨fun x hx => (h.ns x hx).heap (hg.block _ (h.ns x hx).lt (fun e => by obtain ⟨t, cs, hb⟩ := hr _ e.symm; exact (h.ns x hx).noBlk hb)), h.lo, h.nd⟩
theorem Claims.setCell {w : World} {B : Nat} {l : List Cm} (h : Claims w B l) {p : Nat} {t : TypeId} {cs : Array Value} (hb : Blk w p t cs) (i : Nat) (u : Value) : Claims (w.setCell ⟨p, i, none⟩ u) B l :=
  ⟨fun x hx => (h.ns x hx).heap (Below.heap_setCell _ _ _ _ (fun e => (h.ns x hx).noBlk (t := t) (cs := cs) (by rw [e]; exact hb))), h.lo, h.nd⟩
theorem Claims.perm {w : World} {B : Nat} {l l' : List Cm} (h : Claims w B l) (hp : l'.Perm l) : Claims w B l' := ⟨fun x hx => h.ns x (hp.subset hx), fun x hx => h.lo x (hp.subset hx), ((hp.map _).nodup_iff).2 h.nd⟩
theorem Claims.sub {w : World} {B : Nat} {l l' : List Cm} (h : Claims w B l) (hp : l'.Sublist l) : Claims w B l' := ⟨fun x hx => h.ns x (hp.subset hx), fun x hx => h.lo x (hp.subset hx), h.nd.sublist (hp.map _)⟩
theorem OwnK.own {w : World} {B : Nat} {e : TypeId} {v : Value} {ls : List Cm} (h : OwnK w B e v ls) : ∀ k, v.ownBlock = some k → ∃ t cs, Blk w k t cs := by
  intro k hk
  rcases h.2 with ⟨rfl, _⟩ | ⟨g, cap, cur, rfl, _, hg, _⟩
  · simp [Value.ownBlock] at hk
  · simp [Value.ownBlock] at hk
    subst hk
    exact ⟨_, _, hg⟩
theorem OwnK.rowBlk {w : World} {B : Nat} {e : TypeId} {v : Value} {ls : List Cm} (h : OwnK w B e v ls) : ∀ b off n c, v = .slice (some ⟨b, off, none⟩) n c → ∃ cs, Blk w b e cs := by
  intro b off n c hv
  rcases h.2 with ⟨rfl, _⟩ | ⟨g, cap, cur, rfl, _, hg, _⟩
  · cases hv
  · cases hv
    exact ⟨_, hg⟩
section
variable {w w1 w' : World} {B p : Nat} {hs ws : List Cm} {vh vw : Value} {M : Nat → Prop}
theorem Blk.inj {g : Nat} {t : TypeId} {a b : Array Value} (h1 : Blk w g t a) (h2 : Blk w g t b) : a = b := by
  have := h1.symm.trans h2
  simpa using this
theorem Tab.foot (m : Tab w B p hs ws vh vw) {k : Nat} : Foot w p k ↔ k = p ∨ vh.ownBlock = some k ∨ vw.ownBlock = some k := by
  constructor
  · rintro (rfl | ⟨a, b, hb, hk⟩)
    · exact .inl rfl
    · have := Blk.inj hb m.box
      simp at this
      obtain ⟨rfl, rfl⟩ := this
      exact .inr hk
  · rintro (rfl | hk)
    · exact .inl rfl
    · exact .inr ⟨vh, vw, m.box, hk⟩
theorem Tab.ge (m : Tab w B p hs ws vh vw) {k : Nat} (hk : Foot w p k) : B ≤ k ∧ k < w.heap.size := by
  rcases m.foot.1 hk with rfl | hk | hk
  · exact ⟨m.base, m.box.lt⟩
  · exact m.held.lt k hk
  · exact m.wait.lt k hk
theorem Tab.box_ne (m : Tab w B p hs ws vh vw) : vh.ownBlock ≠ some p ∧ vw.ownBlock ≠ some p := by
  have key : ∀ {v : Value} {ls : List Cm}, OwnK w B tC v ls → v.ownBlock ≠ some p := by
    intro v ls ho e
    rcases ho.2 with ⟨rfl, _⟩ | ⟨g, cap, cur, rfl, _, hg, _⟩
    · simp [Value.ownBlock] at e
    · simp [Value.ownBlock] at e
      subst e
      exact Blk.ne m.box hg (by decide) rfl
  exact ⟨key m.held, key m.wait⟩
theorem Tab.below (m : Tab w B p hs ws vh vw) (hb : Below w.heap.size w w') : Tab w' B p hs ws vh vw :=
  ⟨m.box.below hb, m.base, m.held.below hb, m.wait.below hb, m.apart⟩
theorem Tbl.below (m : Tbl w B p hs ws vh vw) (hb : Below w.heap.size w w') : Tbl w' B p hs ws vh vw := ⟨m.toTab.below hb, m.maps.below hb⟩
theorem Tbl.mapLt (m : Tbl w B p hs ws vh vw) {x : Cm} (hx : x ∈ hs ++ ws) : x.2 < w.heap.size := (m.maps.ns x hx).lt
/-- A row of the table as the walk reads it. -/
theorem clsT_of {v : Value} {ls : List Cm} (h : OwnK w B tC v ls) (hn : ∀ x ∈ ls, NsAt w x) : ∃ A c, v = .slice A ls.length c ∧ ClsT w.heap.size w A ls.length ls := by
  obtain ⟨A, c, rfl, h1, -⟩ := h.cells
  exact ⟨A, c, rfl, h1, fun b off e => h.rowBlk b off _ _ (by rw [e]), hn, fun x hx => (hn x hx).lt⟩
theorem Tbl.clsH (m : Tbl w B p hs ws vh vw) : ∃ A c, vh = .slice A hs.length c ∧ ClsT w.heap.size w A hs.length hs := clsT_of m.held fun x hx => m.maps.ns x (List.mem_append_left _ hx)
theorem Tbl.clsW (m : Tbl w B p hs ws vh vw) : ∃ A c, vw = .slice A ws.length c ∧ ClsT w.heap.size w A ws.length ws := clsT_of m.wait fun x hx => m.maps.ns x (List.mem_append_right _ hx)
theorem Moved.refl (p : Nat) (M : Nat → Prop) (w : World) : Moved p M w w := ⟨rfl, rfl, rfl, Nat.le_refl _, fun _ _ _ _ => rfl, fun _ h => .inl h⟩
theorem Moved.trans (a : Moved p M w w1) (b : Moved p M w1 w') : Moved p M w w' := by
  refine ⟨b.os.trans a.os, b.tape.trans a.tape, b.output.trans a.output, Nat.le_trans a.size b.size, fun k hk hf hm => ?_, fun k hk => ?_⟩
  · rw [b.block k (Nat.lt_of_lt_of_le hk a.size) (fun h => (a.foot k h).elim hf (fun h => by omega)) hm, a.block k hk hf hm]
  · rcases b.foot k hk with h | h
    · exact a.foot k h
    · exact .inr (Nat.le_trans a.size h)
theorem Moved.wide {N : Nat → Prop} (a : Moved p M w w') (h : ∀ k, M k → N k) : Moved p N w w' := ⟨a.os, a.tape, a.output, a.size, fun k hk hf hn => a.block k hk hf (fun hm => hn (h k hm)), a.foot⟩
theorem Moved.of_below (hb : Below w.heap.size w w') (hp : p < w.heap.size) : Moved p M w w' := by
  refine ⟨hb.os, hb.tape, hb.output, hb.size, fun k hk _ _ => hb.block k hk, fun k hk => .inl ?_⟩
  rcases hk with rfl | ⟨a, b, hblk, hk⟩
  · exact .inl rfl
  · refine .inr ⟨a, b, ?_, hk⟩
    unfold Blk at hblk ⊢
    rw [← hb.block p hp]
    exact hblk
theorem Moved.below (m : Moved p M w w') (hf : ∀ k, Foot w p k ∨ M k → B ≤ k) (hB : B ≤ w.heap.size) : Below B w w' :=
  ⟨m.os, m.tape, m.output, m.size, fun k hk => m.block k (by omega) (fun h => by have := hf k (.inl h); omega) (fun h => by have := hf k (.inr h); omega)⟩
theorem Blk.moved {g : Nat} {t : TypeId} {cs : Array Value} (hb : Blk w g t cs) (m : Moved p M w w') (hf : ¬ Foot w p g) (hm : ¬ M g) : Blk w' g t cs := (m.block g hb.lt hf hm).trans hb
theorem CellsAt.moved {A : Option Addr} {n size : Nat} {xs : List Value} (hc : CellsAt w A n size xs) (m : Moved p M w w') (hf : ∀ b off, A = some ⟨b, off, none⟩ → ¬ Foot w p b ∧ ¬ M b) : CellsAt w' A n size xs :=
  ⟨hc.1, fun j u hj => by
    obtain ⟨b, off, h1, h2⟩ := hc.2 j u hj
    refine ⟨b, off, h1, ?_⟩
    have hlt := World.block_lt_of_cell? w _ h2
    have e := m.block b hlt (hf b off h1).1 (hf b off h1).2
    unfold World.cell? at h2 ⊢
    rw [e]
    exact h2⟩
end
/-- New: an empty table. -/
theorem clNew (w : World) : Calls Tryz.prog 6 #[] w fun e w' => ∃ p, e = .returned (.pointer (some ⟨p, 0, none⟩)) ∧ Tbl w' w.heap.size p [] [] (.slice none 0 0) (.slice none 0 0) ∧ Below w.heap.size w w' := by
  go_enter Tryz.func6, Tryz.ntmps6
  go_wp2
  go_ret
  exact ⟨_, rfl, ⟨⟨Blk.new _ _ _, Nat.le_refl _, OwnK.nil _ _ _, OwnK.nil _ _ _, .inl rfl⟩, ⟨fun m h => by simp at h, fun m h => by simp at h, by simp⟩⟩, below_alloc (Below.refl _ _) _⟩
end Go.Proofs.YtojbddcbnnbklaaGreatDoor
