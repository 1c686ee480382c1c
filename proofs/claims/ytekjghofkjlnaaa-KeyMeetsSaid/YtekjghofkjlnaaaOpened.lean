/- The contracts on ranges with the parts of the ranges laid open. -/
import Derived.Test.YtekjghofkjlnaaaEqs
namespace Go.Proofs.Ytekjghofkjlnaaa
open Go.RowKit P16 Go.Sort

/-- A range laid open. -/
abbrev rg (lo hi : Bs) (e : Bool) : Value := .agg #[.string ⟨lo.toArray⟩, .string ⟨hi.toArray⟩, .bool e]
theorem in23o (lo hi : Bs) (en : Bool) (k : Bs) (w : World) : Calls Try.prog 23 #[rg lo hi en, .string ⟨k.toArray⟩] w fun e w' => e = .returned (.bool (inR ⟨lo, hi, en⟩ k)) ∧ Below w.heap.size w w' := in23 ⟨lo, hi, en⟩ k w
theorem isEmpty24o (lo hi : Bs) (en : Bool) (w : World) : Calls Try.prog 24 #[rg lo hi en] w fun e w' => e = .returned (.bool (emp ⟨lo, hi, en⟩)) ∧ Below w.heap.size w w' := isEmpty24 ⟨lo, hi, en⟩ w
theorem overlap22o (al ah : Bs) (ae : Bool) (bl bh : Bs) (be : Bool) (w : World) : Calls Try.prog 22 #[rg al ah ae, rg bl bh be] w fun e w' => e = .returned (.bool (overlap ⟨al, ah, ae⟩ ⟨bl, bh, be⟩)) ∧ Below w.heap.size w w' := overlap22 ⟨al, ah, ae⟩ ⟨bl, bh, be⟩ w
theorem covers34o (al ah : Bs) (ae : Bool) (bl bh : Bs) (be : Bool) (w : World) : Calls Try.prog 34 #[rg al ah ae, rg bl bh be] w fun e w' => e = .returned (.bool (covers ⟨al, ah, ae⟩ ⟨bl, bh, be⟩)) ∧ Below w.heap.size w w' := covers34 ⟨al, ah, ae⟩ ⟨bl, bh, be⟩ w
theorem meet25o (al ah : Bs) (ae : Bool) (bl bh : Bs) (be : Bool) (w : World) {ml mh : Bs} {me : Bool} (h : meet ⟨al, ah, ae⟩ ⟨bl, bh, be⟩ = ⟨ml, mh, me⟩) : Calls Try.prog 25 #[rg al ah ae, rg bl bh be] w fun e w' => e = .returned (rg ml mh me) ∧ Below w.heap.size w w' := by
  have := meet25 ⟨al, ah, ae⟩ ⟨bl, bh, be⟩ w
  rw [h] at this
  exact this
theorem point36o (k : Bs) (w : World) : Calls Try.prog 36 #[.string ⟨k.toArray⟩] w fun e w' => e = .returned (rg k k false) ∧ Below w.heap.size w w' := point36 k w
/-- The boxes of parameters stay. -/
theorem box_cells {W : World} {g : Nat} {lo hi : Bs} {e : Bool} (h : Blk W g 33 #[.string ⟨lo.toArray⟩, .string ⟨hi.toArray⟩, .bool e]) : (∀ d os, (grow (redrawn W d) os).cell? ⟨g, 0, none⟩ = some (.string ⟨lo.toArray⟩)) ∧ (∀ d os, (grow (redrawn W d) os).cell? ⟨g, 1, none⟩ = some (.string ⟨hi.toArray⟩)) ∧ (∀ d os, (grow (redrawn W d) os).cell? ⟨g, 2, none⟩ = some (.bool e)) :=
  ⟨fun d os => cell_regrown (h.cell 0) d os, fun d os => cell_regrown (h.cell 1) d os, fun d os => cell_regrown (h.cell 2) d os⟩

theorem cells3 {W : World} {g : Nat} {lo hi : Bs} {e : Bool} (h : Blk W g 33 #[.string ⟨lo.toArray⟩, .string ⟨hi.toArray⟩, .bool e]) : W.cell? ⟨g, 0, none⟩ = some (.string ⟨lo.toArray⟩) ∧ W.cell? ⟨g, 1, none⟩ = some (.string ⟨hi.toArray⟩) ∧ W.cell? ⟨g, 2, none⟩ = some (.bool e) :=
  ⟨h.cell 0, h.cell 1, h.cell 2⟩
theorem point_in (k : Bs) : inR ⟨k, k, false⟩ k = true := by
  unfold inR
  simp [le_refl]
theorem lt_append (k : Bs) (c : UInt8) : lt k (k ++ [c]) = true := by
  induction k with
  | nil => exact nil_lt c []
  | cons a k ih =>
    rw [List.cons_append, lt_cons, ih]
    simp
theorem point_out (k : Bs) : inR ⟨k, k, false⟩ (k ++ [97]) = false := by
  have h : le (k ++ [97]) k = false := by unfold le; rw [lt_append]; rfl
  unfold inR
  simp [h]
theorem covers_point {r : Rng} {k : Bs} (h : inR r k = true) : covers r ⟨k, k, false⟩ = true := by
  unfold inR at h
  unfold covers emp
  simp only [Bool.and_eq_true, Bool.or_eq_true] at h
  rcases h.2 with h2 | h2 <;> simp [h.1, h2]
end Go.Proofs.Ytekjghofkjlnaaa
