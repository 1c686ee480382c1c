/- Chapter 16 in plain Lean: strings as lists of bytes in their order, ranges of keys; no function of the program in sight. -/
import Derived.Sort.Walk0
namespace P16
abbrev Bs := List UInt8
/-- Go's '<' on strings. -/
abbrev lt (x y : Bs) : Bool := Go.Op.bytesLess x y
theorem lt_iff {x y : Bs} : lt x y = true ↔ x < y := by rw [lt, Go.Proofs.bytesLess_eq]; simp
theorem lt_irrefl (x : Bs) : lt x x = false := by
  rw [lt, Go.Proofs.bytesLess_eq]; simp [List.lt_irrefl]
theorem lt_trans {x y z : Bs} (h : lt x y = true) (k : lt y z = true) : lt x z = true := lt_iff.2 (List.lt_trans (lt_iff.1 h) (lt_iff.1 k))
theorem lt_asymm {x y : Bs} (h : lt x y = true) : lt y x = false := by
  cases e : lt y x
  · rfl
  · have := lt_trans h e
    rw [lt_irrefl] at this
    cases this
theorem lt_tri (x y : Bs) : lt x y = true ∨ x = y ∨ lt y x = true := by
  by_cases h : x < y
  · exact .inl (lt_iff.2 h)
  by_cases h' : y < x
  · exact .inr (.inr (lt_iff.2 h'))
  exact .inr (.inl (List.le_antisymm (List.not_lt.1 h') (List.not_lt.1 h)))
/-- Go's '<=': not greater. -/
theorem leq_eq (x y : Bs) : (lt x y || x == y) = !lt y x := by
  rcases lt_tri x y with h | h | h
  · rw [h, lt_asymm h]; rfl
  · subst h; simp [lt_irrefl]
  · rw [h, lt_asymm h]
    by_cases e : x = y
    · subst e; rw [lt_irrefl] at h; cases h
    · simp [e]
def le (x y : Bs) : Bool := !lt y x
theorem le_trans {x y z : Bs} (h : le x y = true) (k : le y z = true) : le x z = true := by
  unfold le at *
  cases e : lt z x
  · rfl
  · rcases lt_tri y z with a | a | a
    · rw [lt_trans a e] at h; cases h
    · subst a; rw [e] at h; cases h
    · rw [a] at k; cases k
theorem le_refl (x : Bs) : le x x = true := by unfold le; rw [lt_irrefl]; rfl
def mx (x y : Bs) : Bs := if lt x y then y else x
def mn (x y : Bs) : Bs := if lt y x then y else x

structure Rng where
  (low high : Bs) (e : Bool)
  deriving DecidableEq
def inR (r : Rng) (k : Bs) : Bool := le r.low k && (r.e || le k r.high)
def emp (r : Rng) : Bool := !r.e && lt r.high r.low
def meet (a b : Rng) : Rng := ⟨mx a.low b.low, if a.e && b.e then [] else if a.e then b.high else if b.e then a.high else mn a.high b.high, a.e && b.e⟩
def overlap (a b : Rng) : Bool := !emp (meet a b)
def covers (a b : Rng) : Bool := emp b || (le a.low b.low && (a.e || !b.e && le b.high a.high))

theorem inR_low (r : Rng) : inR r r.low = !emp r := by
  unfold inR emp
  rw [le_refl]
  unfold le
  cases r.e <;> cases lt r.high r.low <;> rfl
theorem mx_le {x y z : Bs} : le (mx x y) z = (le x z && le y z) := by
  unfold mx
  split
  · rename_i h
    by_cases k : le y z = true
    · rw [k, le_trans (y := y) (by unfold le; rw [lt_asymm h]; rfl) k]; rfl
    · simp only [Bool.not_eq_true] at k; rw [k]; simp
  · rename_i h
    simp only [Bool.not_eq_true] at h
    by_cases k : le x z = true
    · rw [k, le_trans (y := x) (by unfold le; rw [h]; rfl) k]; rfl
    · simp only [Bool.not_eq_true] at k; rw [k]; simp
theorem le_mn {x y z : Bs} : le z (mn x y) = (le z x && le z y) := by
  unfold mn
  split
  · rename_i h
    by_cases k : le z y = true
    · rw [k, le_trans (y := y) k (by unfold le; rw [lt_asymm h]; rfl)]; rfl
    · simp only [Bool.not_eq_true] at k; rw [k]; simp
  · rename_i h
    simp only [Bool.not_eq_true] at h
    by_cases k : le z x = true
    · rw [k, le_trans (y := x) k (by unfold le; rw [h]; rfl)]; rfl
    · simp only [Bool.not_eq_true] at k; rw [k]; simp
theorem inR_meet (a b : Rng) (k : Bs) : inR (meet a b) k = (inR a k && inR b k) := by
  unfold inR meet
  dsimp only
  rw [mx_le]
  cases a.e <;> cases b.e <;> simp [le_mn] <;> cases le a.low k <;> cases le b.low k <;> simp
theorem lt_eq (x y : Bs) : lt x y = !le y x := by unfold le; simp
theorem emp_in {r : Rng} {k : Bs} (h : emp r = true) : inR r k = false := by
  cases e : inR r k
  · rfl
  · unfold emp at h
    unfold inR at e
    simp only [Bool.and_eq_true, Bool.or_eq_true, Bool.not_eq_true'] at h e
    rcases e with ⟨e1, e2 | e2⟩
    · rw [h.1] at e2; cases e2
    · have := le_trans e1 e2
      rw [lt_eq, this] at h
      cases h.2
theorem overlap_comm (a b : Rng) : overlap a b = overlap b a := by
  have h : ∀ a b : Rng, overlap a b = true → overlap b a = true := by
    intro a b h
    unfold overlap at h ⊢
    cases e : emp (meet b a)
    · rfl
    · have h1 := inR_low (meet a b)
      simp only [Bool.not_eq_true'] at h
      rw [h, inR_meet] at h1
      have h2 := emp_in (k := (meet a b).low) e
      rw [inR_meet, Bool.and_comm, h1] at h2
      cases h2
  cases e : overlap a b <;> cases e' : overlap b a <;> first | rfl | (have := h _ _ e; rw [e'] at this; cases this) | (have := h _ _ e'; rw [e] at this; cases this)
theorem covers_in {a b : Rng} {k : Bs} (h : covers a b = true) (hb : inR b k = true) : inR a k = true := by
  unfold covers at h
  cases e : emp b
  · rw [e] at h
    unfold inR at hb ⊢
    simp only [Bool.false_or, Bool.and_eq_true, Bool.or_eq_true, Bool.not_eq_true'] at h hb ⊢
    refine ⟨le_trans h.1 hb.1, ?_⟩
    rcases h.2 with h2 | ⟨h2, h3⟩
    · exact .inl h2
    · rcases hb.2 with h4 | h4
      · rw [h2] at h4; cases h4
      · exact .inr (le_trans h4 h3)
  · rw [emp_in e] at hb; cases hb
theorem le_antisymm {x y : Bs} (h : le x y = true) (k : le y x = true) : x = y := by
  unfold le at *
  rcases lt_tri x y with a | a | a
  · rw [a] at k; cases k
  · exact a
  · rw [a] at h; cases h
end P16
