/- Three ranges that overlap pairwise have a key in common: plain Lean. -/
import Derived.Test.YtekjghofkjlnaaaPlain
namespace P16
theorem le_mx_left (x y : Bs) : le x (mx x y) = true := by
  unfold mx
  split
  · rename_i h
    unfold le
    rw [lt_asymm h]; rfl
  · exact le_refl x
theorem le_mx_right (x y : Bs) : le y (mx x y) = true := by
  unfold mx
  split
  · exact le_refl y
  · rename_i h
    simp only [Bool.not_eq_true] at h
    unfold le
    rw [h]; rfl
theorem overlap_eq (a b : Rng) : overlap a b = ((a.e || (le a.low a.high && le b.low a.high)) && (b.e || (le a.low b.high && le b.low b.high))) := by
  have h := inR_low (meet a b)
  unfold overlap
  rw [← h, inR_meet]
  unfold inR
  rw [show (meet a b).low = mx a.low b.low from rfl, mx_le, mx_le, le_mx_left, le_mx_right]
  rfl
def low3 (a b c : Rng) : Bs := mx (mx a.low b.low) c.low
theorem in_low3 (a b c : Rng) : inR a (low3 a b c) = (a.e || (le a.low a.high && le b.low a.high && le c.low a.high)) ∧ inR b (low3 a b c) = (b.e || (le a.low b.high && le b.low b.high && le c.low b.high)) ∧ inR c (low3 a b c) = (c.e || (le a.low c.high && le b.low c.high && le c.low c.high)) := by
  have h1 : le a.low (low3 a b c) = true := le_trans (le_mx_left _ _) (le_mx_left _ _)
  have h2 : le b.low (low3 a b c) = true := le_trans (le_mx_right _ _) (le_mx_left _ _)
  have h3 : le c.low (low3 a b c) = true := le_mx_right _ _
  unfold inR
  rw [h1, h2, h3]
  unfold low3
  rw [mx_le, mx_le, mx_le, mx_le, mx_le, mx_le]
  exact ⟨rfl, rfl, rfl⟩
theorem helly_bool : ∀ ae be ce aa ba ca ab bb cb ac bc cc : Bool,
    ((((ae || (aa && ba)) && (be || (ab && bb))) && ((be || (bb && cb)) && (ce || (bc && cc)))) && ((ae || (aa && ca)) && (ce || (ac && cc)))) =
    ((ae || (aa && ba && ca)) && (be || (ab && bb && cb)) && (ce || (ac && bc && cc))) := by decide +kernel
theorem helly (a b c : Rng) : (overlap a b && overlap b c && overlap a c) = (inR a (low3 a b c) && inR b (low3 a b c) && inR c (low3 a b c)) := by
  obtain ⟨h1, h2, h3⟩ := in_low3 a b c
  rw [h1, h2, h3, overlap_eq, overlap_eq, overlap_eq]
  exact helly_bool _ _ _ _ _ _ _ _ _ _ _ _
theorem mx_assoc (x y z : Bs) : mx x (mx y z) = mx (mx x y) z := by
  apply le_antisymm <;> rw [mx_le, mx_le] <;> simp only [Bool.and_eq_true]
  · exact ⟨le_trans (le_mx_left _ _) (le_mx_left _ _), le_trans (le_mx_right _ _) (le_mx_left _ _), le_mx_right _ _⟩
  · exact ⟨⟨le_mx_left _ _, le_trans (le_mx_left _ _) (le_mx_right _ _)⟩, le_trans (le_mx_right _ _) (le_mx_right _ _)⟩
theorem helly_emp (a b c : Rng) : emp (meet a (meet b c)) = !(inR a (low3 a b c) && inR b (low3 a b c) && inR c (low3 a b c)) := by
  have h := inR_low (meet a (meet b c))
  rw [inR_meet, inR_meet, show (meet a (meet b c)).low = low3 a b c from mx_assoc _ _ _] at h
  rw [Bool.and_assoc, h]
  simp
end P16
