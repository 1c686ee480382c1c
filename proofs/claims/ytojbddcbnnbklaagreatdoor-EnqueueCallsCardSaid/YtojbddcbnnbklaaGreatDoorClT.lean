/- A table as the plain law sees it, with the blocks that are its own; what a call may have changed. Plain theorems. -/
import Derived.Test.YtojbddcbnnbklaaGreatDoorClLook
import Derived.Test.YtojbddcbnnbklaaGreatDoorEnqF
import Derived.Test.YtojbddcbnnbklaaGreatDoorDsVal
namespace Go.Proofs.YtojbddcbnnbklaaGreatDoor
open Go.RowKit P43

def fstT (hs ws : List Cm) : T := ⟨hs.map (·.1), ws.map (·.1)⟩
/-- The table at p is 't'; F tells its blocks. -/
def TT (w : World) (B p : Nat) (t : T) (F : Nat → Prop) : Prop :=
  ∃ hs ws vh vw, Tbl w B p hs ws vh vw ∧ fstT hs ws = t ∧ ∀ k, F k ↔ (Foot w p k ∨ ∃ x ∈ hs ++ ws, x.2 = k)
/-- From w to w' only the blocks F have changed; F' lie among them or are new. -/
structure Chg (F F' : Nat → Prop) (w w' : World) : Prop where
  os : w'.os = w.os
  tape : w'.tape = w.tape
  output : w'.output = w.output
  size : w.heap.size ≤ w'.heap.size
  block : ∀ k, k < w.heap.size → ¬ F k → w'.heap[k]? = w.heap[k]?
  foot : ∀ k, F' k → F k ∨ w.heap.size ≤ k
section
variable {w w1 w' : World} {B p : Nat} {t t' : T} {F F1 F' : Nat → Prop}
theorem TT.ge (h : TT w B p t F) {k : Nat} (hk : F k) : B ≤ k ∧ k < w.heap.size := by
  obtain ⟨hs, ws, vh, vw, m, e, hF⟩ := h
  rcases (hF k).1 hk with h1 | ⟨x, hx, rfl⟩
  · exact m.ge h1
  · exact ⟨m.maps.lo x hx, m.mapLt hx⟩
theorem TT.self (h : TT w B p t F) : F p := by
  obtain ⟨_, _, _, _, _, _, hF⟩ := h
  exact (hF p).2 (.inl (.inl rfl))
theorem Tbl.same {hs ws : List Cm} {vh vw : Value} (m : Tbl w B p hs ws vh vw) (hb : ∀ k, Foot w p k ∨ (∃ x ∈ hs ++ ws, x.2 = k) → w'.heap[k]? = w.heap[k]?) : Tbl w' B p hs ws vh vw := by
  have key : ∀ {v : Value} {ls : List Cm}, OwnK w B tC v ls → (∀ k, v.ownBlock = some k → w'.heap[k]? = w.heap[k]?) → OwnK w' B tC v ls := by
    intro v ls h hk
    refine ⟨h.1, ?_⟩
    rcases h.2 with h1 | ⟨g, cap, cur, rfl, a2, a3, a4⟩
    · exact .inl h1
    · exact .inr ⟨g, cap, cur, rfl, a2, (hk g rfl).trans a3, a4⟩
  refine ⟨⟨(hb p (.inl (.inl rfl))).trans m.box, m.base, key m.held fun k hk => hb k (.inl (m.foot.2 (.inr (.inl hk)))), key m.wait fun k hk => hb k (.inl (m.foot.2 (.inr (.inr hk)))), m.apart⟩, ⟨fun x hx => (m.maps.ns x hx).heap (hb _ (.inr ⟨x, hx, rfl⟩)), m.maps.lo, m.maps.nd⟩⟩
theorem TT.same (h : TT w B p t F) (hb : ∀ k, F k → w'.heap[k]? = w.heap[k]?) : TT w' B p t F := by
  obtain ⟨hs, ws, vh, vw, m, e, hF⟩ := h
  have m' := m.same (fun k hk => hb k ((hF k).2 hk))
  exact ⟨hs, ws, vh, vw, m', e, fun k => by rw [hF, m.foot, m'.foot]⟩
theorem TT.below (h : TT w B p t F) (hb : Below w.heap.size w w') : TT w' B p t F := h.same fun k hk => hb.block k (h.ge hk).2
/-- Another table is left alone. -/
theorem TT.other {B2 p2 : Nat} {t2 : T} {F2 : Nat → Prop} (h : TT w B2 p2 t2 F2) (c : Chg F F' w w') (hd : ∀ k, F2 k → ¬ F k) : TT w' B2 p2 t2 F2 := h.same fun k hk => c.block k (h.ge hk).2 (hd k hk)
theorem Chg.refl (F : Nat → Prop) (w : World) : Chg F F w w := ⟨rfl, rfl, rfl, Nat.le_refl _, fun _ _ _ => rfl, fun _ h => .inl h⟩
theorem Chg.of_below (hb : Below w.heap.size w w') : Chg F F w w' := ⟨hb.os, hb.tape, hb.output, hb.size, fun k hk _ => hb.block k hk, fun _ h => .inl h⟩
theorem Chg.trans (a : Chg F F1 w w1) (b : Chg F1 F' w1 w') : Chg F F' w w' := by
  refine ⟨b.os.trans a.os, b.tape.trans a.tape, b.output.trans a.output, Nat.le_trans a.size b.size, fun k hk hf => ?_, fun k hk => ?_⟩
  · rw [b.block k (Nat.lt_of_lt_of_le hk a.size) (fun h => (a.foot k h).elim hf (fun h => by omega)), a.block k hk hf]
  · rcases b.foot k hk with h | h
    · exact a.foot k h
    · exact .inr (Nat.le_trans a.size h)
theorem Chg.out (c : Chg F F' w w') {k : Nat} (hk : k < w.heap.size) (hf : ¬ F k) : ¬ F' k := fun h => (c.foot k h).elim hf (fun h => by omega)
theorem Chg.below (c : Chg F F' w w') (hf : ∀ k, F k → B ≤ k) (hB : B ≤ w.heap.size) : Below B w w' := ⟨c.os, c.tape, c.output, c.size, fun k hk => c.block k (by omega) (fun h => by have := hf k h; omega)⟩
/-- A write to a block of the call's own leaves a table alone. -/
theorem TT.grown (h : TT w B p t F) {row : Option Nat} (hg : w.grownBy w' row) (hr : ∀ k, row = some k → ¬ F k) : TT w' B p t F := h.same fun k hk => hg.block k (h.ge hk).2 (fun e => hr k e.symm hk)
theorem Chg.grown {row : Option Nat} (hg : w.grownBy w' row) (hr : ∀ k, row = some k → F k) : Chg F F w w' := ⟨hg.os, hg.tape, hg.output, hg.size, fun k hk hf => hg.block k hk (fun e => hf (hr k e.symm)), fun _ h => .inl h⟩
theorem TT.of_moved {hs ws hs' ws' : List Cm} {vh' vw' : Value} {M : Nat → Prop} (hF : ∀ k, F k ↔ (Foot w p k ∨ ∃ x ∈ hs ++ ws, x.2 = k)) (m' : Tbl w' B p hs' ws' vh' vw') (mv : Moved p M w w') (hM : ∀ k, M k → ∃ x ∈ hs ++ ws, x.2 = k)
    (hx : ∀ x ∈ hs' ++ ws', (∃ y ∈ hs ++ ws, y.2 = x.2) ∨ w.heap.size ≤ x.2) : ∃ F', TT w' B p (fstT hs' ws') F' ∧ Chg F F' w w' := by
  refine ⟨fun k => Foot w' p k ∨ ∃ x ∈ hs' ++ ws', x.2 = k, ⟨hs', ws', vh', vw', m', rfl, fun k => Iff.rfl⟩, mv.os, mv.tape, mv.output, mv.size, fun k hk hf => ?_, fun k hk => ?_⟩
  · rw [hF] at hf
    exact mv.block k hk (fun h => hf (.inl h)) (fun h => hf (.inr (hM k h)))
  · rw [hF]
    rcases hk with hk | ⟨x, hx', rfl⟩
    · rcases mv.foot k hk with h | h
      · exact .inl (.inl h)
      · exact .inr h
    · rcases hx x hx' with h | h
      · exact .inl (.inr h)
      · exact .inr h
theorem OwnI.chg {B2 : Nat} {v : Value} {xs : List Int} (h : OwnI w B2 v xs) (c : Chg F F' w w') (hf : ∀ k, v.ownBlock = some k → ¬ F k) : OwnI w' B2 v xs := by
  refine ⟨h.1, ?_⟩
  rcases h.2 with h1 | ⟨g, cap, cur, rfl, a2, a3, a4⟩
  · exact .inl h1
  · exact .inr ⟨g, cap, cur, rfl, a2, (c.block g (Array.getElem?_eq_some_iff.1 a3).1 (hf g rfl)).trans a3, a4⟩
end
/-- What a call that changes the table leaves: the value handed back by R, the table t'. -/
def TPost (F : Nat → Prop) (w : World) (B p : Nat) (t' : T) (R : Ending → World → Prop) (e : Ending) (w' : World) : Prop := R e w' ∧ ∃ F', TT w' B p t' F' ∧ Chg F F' w w'
end Go.Proofs.YtojbddcbnnbklaaGreatDoor
