/- A lock manager in memory: its box, its two rows, and what a call may have changed; plain theorems, no function of the program in sight. -/
import Derived.Test.YtjklhiifjnmedaaGreatDoorMem
namespace Go.Proofs.YtjklhiifjnmedaaGreatDoor
open Go.RowKit P16 P46

/-- The number of the manager's type, and of a lock's. -/
abbrev tM : TypeId := 89
abbrev tL : TypeId := 46
/-- The manager at block p holds 'h' and has 'q' waiting; its memory lies in blocks from B on. -/
structure Mgr (w : World) (B p : Nat) (h q : List Lock) (vh vq : Value) : Prop where
  box : Blk w p tM #[vh, vq]
  base : B ≤ p
  held : OwnL w B tL vh h
  queue : OwnL w B tL vq q
  apart : vh.ownBlock = none ∨ vh.ownBlock ≠ vq.ownBlock
/-- Block k is the manager's. -/
def Foot (w : World) (p k : Nat) : Prop := k = p ∨ ∃ vh vq, Blk w p tM #[vh, vq] ∧ (vh.ownBlock = some k ∨ vq.ownBlock = some k)
/-- From w to w' only the manager's blocks may have changed; its blocks are those that it had, or new ones. -/
structure Moved (p : Nat) (w w' : World) : Prop where
  os : w'.os = w.os
  tape : w'.tape = w.tape
  output : w'.output = w.output
  size : w.heap.size ≤ w'.heap.size
  block : ∀ k, k < w.heap.size → ¬ Foot w p k → w'.heap[k]? = w.heap[k]?
  foot : ∀ k, Foot w' p k → Foot w p k ∨ w.heap.size ≤ k
section
variable {w w1 w' : World} {B p : Nat} {h q : List Lock} {vh vq : Value}
theorem Blk.inj {g : Nat} {t : TypeId} {a b : Array Value} (h1 : Blk w g t a) (h2 : Blk w g t b) : a = b := by
  have := h1.symm.trans h2
  simpa using this
theorem Mgr.foot (m : Mgr w B p h q vh vq) {k : Nat} : Foot w p k ↔ k = p ∨ vh.ownBlock = some k ∨ vq.ownBlock = some k := by
  constructor
  · rintro (rfl | ⟨a, b, hb, hk⟩)
    · exact .inl rfl
    · have := Blk.inj hb m.box
      simp at this
      obtain ⟨rfl, rfl⟩ := this
      exact .inr hk
  · rintro (rfl | hk)
    · exact .inl rfl
    · exact .inr ⟨vh, vq, m.box, hk⟩
theorem Mgr.ge (m : Mgr w B p h q vh vq) {k : Nat} (hk : Foot w p k) : B ≤ k ∧ k < w.heap.size := by
  rcases m.foot.1 hk with rfl | hk | hk
  · exact ⟨m.base, m.box.lt⟩
  · exact m.held.lt k hk
  · exact m.queue.lt k hk
theorem Mgr.box_ne (m : Mgr w B p h q vh vq) : vh.ownBlock ≠ some p ∧ vq.ownBlock ≠ some p := by
  have key : ∀ {v : Value} {ls : List Lock}, OwnL w B tL v ls → v.ownBlock ≠ some p := by
    intro v ls ho e
    rcases ho.2 with ⟨rfl, _⟩ | ⟨g, cap, cur, rfl, _, hg, _⟩
    · simp [Value.ownBlock] at e
    · simp [Value.ownBlock] at e
      subst e
      exact Blk.ne m.box hg (by decide) rfl
  exact ⟨key m.held, key m.queue⟩
theorem Mgr.below (m : Mgr w B p h q vh vq) (hb : Below w.heap.size w w') : Mgr w' B p h q vh vq :=
  ⟨m.box.below hb, m.base, m.held.below hb, m.queue.below hb, m.apart⟩
theorem Moved.refl (p : Nat) (w : World) : Moved p w w := ⟨rfl, rfl, rfl, Nat.le_refl _, fun _ _ _ => rfl, fun _ h => .inl h⟩
theorem Moved.trans (a : Moved p w w1) (b : Moved p w1 w') : Moved p w w' := by
  refine ⟨b.os.trans a.os, b.tape.trans a.tape, b.output.trans a.output, Nat.le_trans a.size b.size, fun k hk hf => ?_, fun k hk => ?_⟩
  · rw [b.block k (Nat.lt_of_lt_of_le hk a.size) (fun h => (a.foot k h).elim hf (fun h => by omega)), a.block k hk hf]
  · rcases b.foot k hk with h | h
    · exact a.foot k h
    · exact .inr (Nat.le_trans a.size h)
theorem Moved.of_below (hb : Below w.heap.size w w') (hp : p < w.heap.size) : Moved p w w' := by
  refine ⟨hb.os, hb.tape, hb.output, hb.size, fun k hk _ => hb.block k hk, fun k hk => .inl ?_⟩
  rcases hk with rfl | ⟨a, b, hblk, hk⟩
  · exact .inl rfl
  · refine .inr ⟨a, b, ?_, hk⟩
    unfold Blk at hblk ⊢
    rw [← hb.block p hp]
    exact hblk
theorem Moved.below (m : Moved p w w') (hf : ∀ k, Foot w p k → B ≤ k) (hB : B ≤ w.heap.size) : Below B w w' :=
  ⟨m.os, m.tape, m.output, m.size, fun k hk => m.block k (by omega) (fun h => by have := hf k h; omega)⟩
theorem Blk.moved {g : Nat} {t : TypeId} {cs : Array Value} (hb : Blk w g t cs) (m : Moved p w w') (hf : ¬ Foot w p g) : Blk w' g t cs := (m.block g hb.lt hf).trans hb
theorem CellsAt.moved {A : Option Addr} {n size : Nat} {xs : List Value} (hc : CellsAt w A n size xs) (m : Moved p w w') (hf : ∀ b off, A = some ⟨b, off, none⟩ → ¬ Foot w p b) : CellsAt w' A n size xs :=
  ⟨hc.1, fun j u hj => by
    obtain ⟨b, off, h1, h2⟩ := hc.2 j u hj
    refine ⟨b, off, h1, ?_⟩
    have hlt := World.block_lt_of_cell? w _ h2
    have e := m.block b hlt (hf b off h1)
    unfold World.cell? at h2 ⊢
    rw [e]
    exact h2⟩
end
end Go.Proofs.YtjklhiifjnmedaaGreatDoor
