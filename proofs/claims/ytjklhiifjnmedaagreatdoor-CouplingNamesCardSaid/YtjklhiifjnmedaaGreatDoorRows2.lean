/- Rows of cells written in the middle: several cells stored at once, the tail cleared; plain theorems, no function of the program in sight. -/
import Derived.Test.YtjklhiifjnmedaaGreatDoorMem
import Derived.Deep.MidRow
import Derived.Deep.Upon
namespace Go.Proofs.YtjklhiifjnmedaaGreatDoor
open Go.RowKit P16 P46

/-- The cells cs with vs laid over them from place o on. -/
def over (cs : Array Value) (o : Nat) (vs : List Value) : Array Value := (cs.toList.take o ++ vs ++ cs.toList.drop (o + vs.length)).toArray
theorem over_size {cs : Array Value} {o : Nat} {vs : List Value} (h : o + vs.length ≤ cs.size) : (over cs o vs).size = cs.size := by
  simp [over]
  omega
theorem over_cons (cs : Array Value) (o : Nat) (v : Value) (vs : List Value) (h : o + (vs.length + 1) ≤ cs.size) : over (cs.setIfInBounds o v) (o + 1) vs = over cs o (v :: vs) := by
  unfold over
  congr 1
  rw [Array.toList_setIfInBounds]
  have e1 : (cs.toList.set o v).take (o + 1) = cs.toList.take o ++ [v] := by
    rw [List.take_succ_eq_append_getElem (by simp; omega), List.take_set_of_le (Nat.le_refl _)]
    simp
  have e2 : (cs.toList.set o v).drop (o + 1 + vs.length) = cs.toList.drop (o + (v :: vs).length) := by
    rw [List.drop_set_of_lt (by omega)]
    congr 1
    simp
    omega
  rw [e1, e2]
  simp
section
variable {w w' : World} {g : Nat} {t : TypeId}
theorem Blk.setCells : ∀ {vs : List Value} {w : World} {cs : Array Value} {o : Nat}, Blk w g t cs → o + vs.length ≤ cs.size → Blk (w.setCells g o vs) g t (over cs o vs)
  | [], w, cs, o, h, _ => by
    have : over cs o [] = cs := by simp [over]
    rw [this]
    exact h
  | v :: vs, w, cs, o, h, hs => by
    rw [← over_cons cs o v vs (by simpa using hs)]
    exact Blk.setCells (h.put o v) (by simp at hs ⊢; omega)
theorem size_setCells (g : Nat) : ∀ (vs : List Value) (o : Nat) (w : World), (w.setCells g o vs).heap.size = w.heap.size
  | [], _, _ => rfl
  | v :: vs, o, w => by
    rw [World.setCells, size_setCells g vs]
    simp
theorem tape_setCells (g : Nat) : ∀ (vs : List Value) (o : Nat) (w : World), (w.setCells g o vs).tape = w.tape
  | [], _, _ => rfl
  | v :: vs, o, w => by
    rw [World.setCells, tape_setCells g vs]
    rfl
theorem heap_setCells_ne (vs : List Value) (o : Nat) {k : Nat} (hk : k ≠ g) : ∀ (w : World), (w.setCells g o vs).heap[k]? = w.heap[k]? := by
  induction vs generalizing o with
  | nil => intro w; rfl
  | cons v vs ih =>
    intro w
    rw [World.setCells, ih]
    exact Below.heap_setCell w ⟨g, o, none⟩ v k hk
theorem grownBy_setCells (w : World) (o : Nat) (vs : List Value) : w.grownBy (w.setCells g o vs) (some g) :=
  ⟨World.os_setCells w g o vs, tape_setCells g vs o w, World.output_setCells w g o vs, Nat.le_of_eq (size_setCells g vs o w).symm, fun k _ hk => heap_setCells_ne vs o (fun e => hk (by rw [e])) w⟩
theorem Blk.there {cs : Array Value} (h : Blk w g t cs) {o n : Nat} (hs : o + n ≤ cs.size) : w.there g o n := fun j hj =>
  ⟨by rw [h.cell]; simp; omega, h.frozen _⟩
end
/-- 'clear(s)': the cells of s hold the zero value. -/
theorem run_clear_row {P : Program} (w : World) (t e ty : TypeId) (z : Value) (size : Nat) (ht : P.underlying t = some (.slice e)) (hv : ∀ w, (zeroValue e).run P w = .ok z w) (hz : z.cells.size = size) (h1 : ∀ v ∈ z.cells, v.oneCell' = true)
    (g o n c : Nat) (cs : Array Value) (te : TypeId) (hb : Blk w g te cs) (hs : o + n * size ≤ cs.size) :
    ∃ zs : List Value, zs.length = n * size ∧ (Builtin.clear_ #[t] ty #[.slice (some ⟨g, o, none⟩) n c]).run P w = .ok (.tuple #[]) (w.setCells g o zs) := by
  cases n with
  | zero => exact ⟨[], by simp, by simp [Builtin.clear_, run_underlying ht, World.setCells]⟩
  | succ n =>
    refine ⟨(Builtin.zeroCells z.cells (n + 1)).toList, by simp [Builtin.zeroCells, hz], ?_⟩
    have hl : (Builtin.zeroCells z.cells (n + 1)).toList.length = (n + 1) * size := by simp [Builtin.zeroCells, hz]
    have hst := run_storeCells_cells (P := P) g o (Builtin.zeroCells z.cells (n + 1)).toList 0 w (fun j hj => by
        have := (hb.there (o := o) (n := (n + 1) * size) hs) j (by omega)
        simpa using this.1) (fun j hj => by
        have := (hb.there (o := o) (n := (n + 1) * size) hs) j (by omega)
        simpa using this.2) (fun v hv' => by
        simp only [Builtin.zeroCells, Array.toList_map, List.mem_map, Array.mem_toList_iff, Array.mem_range] at hv'
        obtain ⟨i, hi, rfl⟩ := hv'
        have hpos : 0 < z.cells.size := by
          rcases Nat.eq_zero_or_pos z.cells.size with h0 | h0
          · rw [h0] at hi; simp at hi
          · exact h0
        have hlt := Nat.mod_lt i hpos
        rw [getElem!_pos z.cells (i % z.cells.size) hlt]
        exact h1 _ (Array.getElem_mem hlt))
    simp only [Nat.add_zero] at hst
    simp [Builtin.clear_, run_underlying ht, hv, hst]
theorem OwnL.blk {w : World} {B g n cap : Nat} {e : TypeId} {ls : List Lock} (h : OwnL w B e (.slice (some ⟨g, 0, none⟩) n cap) ls) : ∃ cur, Blk w g e cur ∧ cur.size = cap * 6 ∧ n = ls.length ∧ n ≤ cap ∧ cap ≤ maxLen ∧ cur.toList.take (n * 6) = lcs ls ∧ B ≤ g := by
  rcases h.2 with ⟨h0, _⟩ | ⟨g', cap', cur, hv, a1, a2, a3, a4, a5, a6⟩
  · cases h0
  · cases hv
    exact ⟨cur, a2, a5, rfl, a3, a4, a6, a1⟩
theorem OwnL.of_blk {w : World} {B g n cap : Nat} {e : TypeId} {ls : List Lock} {cur : Array Value} (hb : Blk w g e cur) (hs : cur.size = cap * 6) (hn : n = ls.length) (hc : n ≤ cap) (hm : cap ≤ maxLen) (ht : cur.toList.take (n * 6) = lcs ls) (hB : B ≤ g) : OwnL w B e (.slice (some ⟨g, 0, none⟩) n cap) ls := by
  subst hn
  exact ⟨lcs_length ls, .inr ⟨g, cap, cur, rfl, hB, hb, hc, hm, hs, ht⟩⟩
/-- Cells behind the row's own elements may be what they will. -/
theorem OwnL.tail {w : World} {B g n cap : Nat} {e : TypeId} {ls : List Lock} (h : OwnL w B e (.slice (some ⟨g, 0, none⟩) n cap) ls) {o : Nat} {zs : List Value} (ho : n * 6 ≤ o) (hz : o + zs.length ≤ cap * 6) : OwnL (w.setCells g o zs) B e (.slice (some ⟨g, 0, none⟩) n cap) ls := by
  obtain ⟨cur, h1, h2, h3, h4, h5, h6, h7⟩ := h.blk
  refine OwnL.of_blk (h1.setCells (by omega)) (by rw [over_size (by omega)]; exact h2) h3 h4 h5 ?_ h7
  unfold over
  rw [← h6]
  simp only [List.append_assoc]
  rw [List.take_append_of_le_length (by simp; omega), List.take_take, Nat.min_eq_left ho]
/-- The element at i is left out: those behind it are laid over it. -/
theorem OwnL.cut {w : World} {B g cap : Nat} {e : TypeId} {a b : List Lock} {x : Lock} (h : OwnL w B e (.slice (some ⟨g, 0, none⟩) (a.length + 1 + b.length) cap) (a ++ x :: b)) : OwnL (w.setCells g (a.length * 6) (lcs b)) B e (.slice (some ⟨g, 0, none⟩) (a.length + b.length) cap) (a ++ b) := by
  obtain ⟨cur, h1, h2, h3, h4, h5, h6, h7⟩ := h.blk
  have hl := lcs_length b
  refine OwnL.of_blk (h1.setCells (by omega)) (by rw [over_size (by omega)]; exact h2) (by simp) (by omega) h5 ?_ h7
  unfold over
  have e1 : cur.toList.take (a.length * 6) = lcs a := by
    have := congrArg (List.take (a.length * 6)) h6
    rw [List.take_take, Nat.min_eq_left (by omega), lcs_append, List.take_append_of_le_length (by rw [lcs_length]; omega), List.take_of_length_le (l := lcs a) (by rw [lcs_length]; omega)] at this
    exact this
  rw [e1, lcs_append]
  simp only [List.append_assoc]
  have e2 : (lcs a ++ (lcs b ++ cur.toList.drop (a.length * 6 + (lcs b).length))) = (lcs a ++ lcs b) ++ cur.toList.drop (a.length * 6 + (lcs b).length) := by simp
  rw [e2, List.take_append_of_le_length (by rw [List.length_append, lcs_length, lcs_length]; omega), List.take_of_length_le (by rw [List.length_append, lcs_length, lcs_length]; omega)]
end Go.Proofs.YtjklhiifjnmedaaGreatDoor
