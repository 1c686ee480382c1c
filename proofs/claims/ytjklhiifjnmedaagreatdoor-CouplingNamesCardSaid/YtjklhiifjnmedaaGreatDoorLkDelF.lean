/- slices.DeleteFunc at locks, for a closure with one captured box that lies outside the row. -/
import Derived.Test.YtjklhiifjnmedaaGreatDoorLkDel
namespace Go.Proofs.YtjklhiifjnmedaaGreatDoor
open Go.RowKit P16 P46
attribute [local go_sem] ByteArray.mk_append_mk ByteArray.extract_mk mk_index

/-- An element is written. -/
theorem OwnL.set {w : World} {B g n cap : Nat} {e : TypeId} {a b : List Lock} {x y : Lock} (h : OwnL w B e (.slice (some ⟨g, 0, none⟩) n cap) (a ++ x :: b)) : OwnL (w.setCells g (a.length * 6) (lc y)) B e (.slice (some ⟨g, 0, none⟩) n cap) (a ++ y :: b) := by
  obtain ⟨cur, h1, h2, h3, h4, h5, h6, h7⟩ := h.blk
  have hn : n = a.length + 1 + b.length := by rw [h3]; simp; omega
  have hl : (lc y).length = 6 := by simp [lc]
  have hlx : (lc x).length = 6 := by simp [lc]
  refine OwnL.of_blk (h1.setCells (by omega)) (by rw [over_size (by omega)]; exact h2) (by rw [h3]; simp) h4 h5 ?_ h7
  unfold over
  rw [lcs_append, lcs_cons] at h6 ⊢
  have e1 : cur.toList.take (a.length * 6) = lcs a := by
    have := congrArg (List.take (a.length * 6)) h6
    rw [List.take_take, Nat.min_eq_left (by omega), List.take_append_of_le_length (by rw [lcs_length]; omega), List.take_of_length_le (l := lcs a) (by rw [lcs_length]; omega)] at this
    exact this
  have e2 : (cur.toList.drop (a.length * 6 + (lc y).length)).take (b.length * 6) = lcs b := by
    have := congrArg (List.drop (a.length * 6 + 6)) h6
    rw [← List.append_assoc, List.drop_left' (l₁ := lcs a ++ lc x) (by simp [lcs_length, hlx]), List.drop_take] at this
    rw [hl, ← this]
    congr 1
    omega
  rw [e1]
  have e3 : n * 6 = (lcs a ++ lc y).length + b.length * 6 := by simp [lcs_length, hl]; omega
  rw [e3, List.take_length_add_append, e2, List.append_assoc]
theorem OwnL.front {w : World} {B g n cap : Nat} {e : TypeId} {a b : List Lock} (h : OwnL w B e (.slice (some ⟨g, 0, none⟩) n cap) (a ++ b)) : OwnL w B e (.slice (some ⟨g, 0, none⟩) a.length cap) a := by
  obtain ⟨cur, h1, h2, h3, h4, h5, h6, h7⟩ := h.blk
  rw [List.length_append] at h3
  refine OwnL.of_blk h1 h2 rfl (by omega) h5 ?_ h7
  have := congrArg (List.take (a.length * 6)) h6
  rw [List.take_take, Nat.min_eq_left (by omega), lcs_append, List.take_append_of_le_length (by rw [lcs_length]; omega), List.take_of_length_le (l := lcs a) (by rw [lcs_length]; omega)] at this
  exact this
/-- The closure answers f, whatever becomes of the row. -/
structure AsksG (g b : Nat) (f : Lock → Bool) (w : World) (row : Option Nat) : Prop where
  known : ∀ (args : Array Value) (W : World), Sem.run Tryz.prog (callFunc g args) W = .ok (.enter g args) W
  ask : ∀ (l : Lock) (W : World), w.grownBy W row → Calls Tryz.prog g #[lv l, .pointer (some ⟨b, 0, none⟩)] W fun e W' => e = .returned (.bool (f l)) ∧ Below W.heap.size W W'
theorem grown_of_below {w W : World} (row : Option Nat) (h : Below w.heap.size w W) : w.grownBy W row := ⟨h.os, h.tape, h.output, h.size, fun k hk _ => h.block k hk⟩
theorem AsksG.asks {g b : Nat} {f : Lock → Bool} {w : World} {row : Option Nat} (h : AsksG g b f w row) : Asks g b f w := ⟨h.known, fun l W hW => h.ask l W (grown_of_below row hW)⟩
theorem OwnL.val {w : World} {B : Nat} {e : TypeId} {v : Value} {ls : List Lock} (h : OwnL w B e v ls) : (v = .slice none 0 0 ∧ ls = []) ∨ ∃ g cap, v = .slice (some ⟨g, 0, none⟩) ls.length cap := by
  rcases h.2 with ⟨rfl, h0⟩ | ⟨g, cap, cur, rfl, _⟩
  · exact .inl ⟨rfl, List.eq_nil_of_length_eq_zero h0⟩
  · exact .inr ⟨g, cap, rfl⟩
/-- Those that stay. -/
def kept (f : Lock → Bool) (ls : List Lock) : List Lock := ls.filter fun l => !f l
theorem kept_take {f : Lock → Bool} {ls : List Lock} {k : Nat} {l : Lock} (h : ls[k]? = some l) : kept f (ls.take (k + 1)) = if f l = true then kept f (ls.take k) else kept f (ls.take k) ++ [l] := by
  unfold kept
  rw [take_snoc h, List.filter_append]
  by_cases e : f l = true <;> simp [e]
theorem kept_none {f : Lock → Bool} {ls : List Lock} (h : ls.findIdx? f = none) : kept f ls = ls := by
  rw [List.findIdx?_eq_none_iff] at h
  unfold kept
  rw [List.filter_eq_self]
  intro l hl
  rw [h l hl]
  rfl
theorem kept_some {f : Lock → Bool} {ls : List Lock} {k : Nat} (h : ls.findIdx? f = some k) : ∃ l, ls[k]? = some l ∧ kept f (ls.take (k + 1)) = ls.take k := by
  rw [List.findIdx?_eq_some_iff_getElem] at h
  obtain ⟨hk, hf, hlt⟩ := h
  refine ⟨ls[k], List.getElem?_eq_getElem hk, ?_⟩
  rw [kept_take (List.getElem?_eq_getElem hk), if_pos hf]
  unfold kept
  rw [List.filter_eq_self]
  intro l hl
  obtain ⟨j, hj, rfl⟩ := List.mem_iff_getElem.1 hl
  simp at hj
  rw [List.getElem_take]
  have := hlt j (by omega)
  simpa using this
/-- The rounds of DeleteFunc: those that stay, copies left behind, and the rest. -/
structure DInv (w wr : World) (B g n cap : Nat) (f : Lock → Bool) (ls : List Lock) (i j : Nat) (X : List Lock) : Prop where
  own : OwnL wr B 46 (.slice (some ⟨g, 0, none⟩) n cap) (kept f (ls.take j) ++ X ++ ls.drop j)
  grown : w.grownBy wr (some g)
  len : (kept f (ls.take j)).length = i
  some_ : 0 < X.length
section
variable {w wr w' : World} {B g n cap i j : Nat} {f : Lock → Bool} {ls X : List Lock} {l : Lock}
theorem DInv.next (h : DInv w wr B g n cap f ls i j X) (hb : Below wr.heap.size wr w') : DInv w w' B g n cap f ls i j X := ⟨h.own.below hb, grown_below h.grown hb, h.len, h.some_⟩
theorem drop_cons {α : Type} {ls : List α} {j : Nat} {l : α} (h : ls[j]? = some l) : ls.drop j = l :: ls.drop (j + 1) := by
  obtain ⟨hj, rfl⟩ := List.getElem?_eq_some_iff.1 h
  exact List.drop_eq_getElem_cons hj
theorem DInv.skip (h : DInv w wr B g n cap f ls i j X) (hl : ls[j]? = some l) (hf : f l = true) : DInv w wr B g n cap f ls i (j + 1) (X ++ [l]) := by
  have e := kept_take (f := f) hl
  rw [if_pos hf] at e
  refine ⟨?_, h.grown, by rw [e]; exact h.len, by simp⟩
  have ho := h.own
  rw [drop_cons hl] at ho
  rw [e]
  simpa using ho
theorem DInv.keep (h : DInv w wr B g n cap f ls i j X) (hl : ls[j]? = some l) (hf : f l = false) : ∃ X', DInv w (wr.setCells g (i * 6) (lc l)) B g n cap f ls (i + 1) (j + 1) X' := by
  have e := kept_take (f := f) hl
  rw [if_neg (by rw [hf]; simp)] at e
  obtain ⟨x, X2, hx⟩ : ∃ x X2, X ++ [l] = x :: X2 ∧ 0 < X2.length := by
    have hs := h.some_
    cases X with
    | nil => simp at hs
    | cons x X2 => exact ⟨x, X2 ++ [l], rfl, by simp⟩
  refine ⟨X2, ?_, grown_trans h.grown (grownBy_setCells (g := g) wr (i * 6) (lc l)), by rw [e, List.length_append, h.len]; rfl, hx.2⟩
  have ho := h.own
  rw [drop_cons hl] at ho
  have e2 : kept f (ls.take j) ++ X ++ l :: ls.drop (j + 1) = kept f (ls.take j) ++ x :: (X2 ++ ls.drop (j + 1)) := by
    have : X ++ l :: ls.drop (j + 1) = (X ++ [l]) ++ ls.drop (j + 1) := by simp
    rw [List.append_assoc, this, hx.1]
    simp
  rw [e2] at ho
  have := ho.set (y := l)
  rw [h.len] at this
  rw [e]
  simpa using this
end
end Go.Proofs.YtjklhiifjnmedaaGreatDoor
