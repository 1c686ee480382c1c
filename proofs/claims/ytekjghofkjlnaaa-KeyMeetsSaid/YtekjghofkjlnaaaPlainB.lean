/- Chapter 16 in plain Lean, second part: common beginnings, separators, numbers as keys. -/
import Derived.Test.YtekjghofkjlnaaaPlain
namespace P16
def front : Bs → Bs → Nat
  | a :: p, b :: q => if a = b then front p q + 1 else 0
  | _, _ => 0
theorem front_le : ∀ a b : Bs, front a b ≤ a.length ∧ front a b ≤ b.length
  | [], _ => by simp [front]
  | _ :: _, [] => by simp [front]
  | a :: p, b :: q => by
    have := front_le p q
    unfold front
    split <;> simp <;> omega
theorem front_step : ∀ (a b : Bs) (k : Nat) (x y : UInt8), k ≤ front a b → a[k]? = some x → b[k]? = some y → (x = y → k + 1 ≤ front a b) ∧ (x ≠ y → front a b = k)
  | [], _, k, x, y, _, h, _ => by simp at h
  | _ :: _, [], k, x, y, _, _, h => by simp at h
  | a :: p, b :: q, 0, x, y, _, h, h' => by
    simp at h h'
    subst h h'
    unfold front
    split <;> simp_all
  | a :: p, b :: q, k + 1, x, y, hk, h, h' => by
    unfold front at hk ⊢
    split at hk
    · rename_i e
      have := front_step p q k x y (by omega) (by simpa using h) (by simpa using h')
      rw [if_pos e]
      exact ⟨fun e => by have := this.1 e; omega, fun e => by have := this.2 e; omega⟩
    · omega
theorem front_end {a b : Bs} {k : Nat} (hk : k ≤ front a b) (h : a.length ≤ k ∨ b.length ≤ k) : front a b = k := by
  have := front_le a b
  omega
theorem lt_cons (a b : UInt8) (p q : Bs) : lt (a :: p) (b :: q) = (decide (a < b) || (decide (a = b) && lt p q)) := by
  rw [lt, lt, Go.Proofs.bytesLess_eq, Go.Proofs.bytesLess_eq]
  by_cases h : a < b
  · simp [h, List.cons_lt_cons_iff]
  · by_cases e : a = b
    · subst e
      simp [List.cons_lt_cons_iff, UInt8.lt_irrefl]
    · simp [h, e, List.cons_lt_cons_iff]
theorem lt_nil (a : Bs) : lt a [] = false := by
  rw [lt, Go.Proofs.bytesLess_eq]; simp
theorem nil_lt (b : UInt8) (q : Bs) : lt [] (b :: q) = true := by
  rw [lt, Go.Proofs.bytesLess_eq]; simp
theorem lt_take_front : ∀ (a b : Bs) (i : Nat), i ≤ front a b → lt a (b.take i) = false
  | [], b, i, h => by
    unfold front at h
    obtain rfl : i = 0 := by omega
    rw [List.take_zero, lt_nil]
  | _ :: _, [], i, h => by rw [List.take_nil, lt_nil]
  | a :: p, b :: q, 0, h => by rw [List.take_zero, lt_nil]
  | a :: p, b :: q, i + 1, h => by
    unfold front at h
    split at h
    · rename_i e
      subst e
      rw [List.take_succ_cons, lt_cons, lt_take_front p q i (by omega)]
      simp [UInt8.lt_irrefl]
    · omega
theorem lt_take_more : ∀ (a b : Bs), lt a b = true → front a b < b.length ∧ lt a (b.take (front a b + 1)) = true
  | [], [], h => by rw [lt_nil] at h; cases h
  | [], b :: q, h => by simp [front, nil_lt]
  | _ :: _, [], h => by rw [lt_nil] at h; cases h
  | a :: p, b :: q, h => by
    rw [lt_cons] at h
    unfold front
    split
    · rename_i e
      subst e
      simp [UInt8.lt_irrefl] at h
      have := lt_take_more p q h
      rw [List.take_succ_cons, lt_cons, this.2]
      simp
      omega
    · rename_i e
      simp [e] at h
      rw [List.take_succ_cons, lt_cons]
      simp [h]
theorem le_take : ∀ (b : Bs) (i : Nat), le (b.take i) b = true
  | [], i => by simp [le, lt_nil]
  | b :: q, 0 => by simp [le, lt_nil]
  | b :: q, i + 1 => by
    have := le_take q i
    unfold le at this ⊢
    rw [List.take_succ_cons, lt_cons]
    simp at this
    simp [UInt8.lt_irrefl, this]
theorem lt_take_no {a b : Bs} (h : lt a b = false) (i : Nat) : lt a (b.take i) = false := by
  cases e : lt a (b.take i)
  · rfl
  · have h1 := le_take b i
    unfold le at h1
    rcases lt_tri (b.take i) b with h2 | h2 | h2
    · rw [lt_trans e h2] at h; cases h
    · rw [h2, h] at e; cases e
    · rw [h2] at h1; cases h1
def sep (a b : Bs) : Bs := if lt a b = true then b.take (front a b + 1) else []
/-- The law on separators. -/
theorem sep_law {a b : Bs} (h : lt a b = true) : lt a (sep a b) = true ∧ le (sep a b) b = true ∧ (sep a b).length = front a b + 1 := by
  have := lt_take_more a b h
  unfold sep
  rw [if_pos h]
  exact ⟨this.2, le_take _ _, by rw [List.length_take]; omega⟩
theorem sep_no {a b : Bs} (h : lt a b = false) : sep a b = [] := by unfold sep; rw [h]; rfl

theorem snoc_ind {P : Bs → Prop} (h0 : P []) (h1 : ∀ l c, P l → P (l ++ [c])) (l : Bs) : P l := by
  have : ∀ r : Bs, P r.reverse := by
    intro r
    induction r with
    | nil => simpa using h0
    | cons c r ih =>
      rw [List.reverse_cons]
      exact h1 _ _ ih
  have := this l.reverse
  rwa [List.reverse_reverse] at this
/-- The number that bytes are, most significant first. -/
def num (l : Bs) : Nat := l.foldl (fun n c => n * 256 + c.toNat) 0
theorem num_snoc (l : Bs) (c : UInt8) : num (l ++ [c]) = num l * 256 + c.toNat := by simp [num]
theorem num_nil : num [] = 0 := rfl
theorem num_lt (l : Bs) : num l < 256 ^ l.length := by
  induction l using snoc_ind with
  | h0 => simp [num]
  | h1 l c ih =>
    rw [num_snoc]
    have := c.toNat_lt
    simp only [List.length_append, List.length_singleton, Nat.pow_succ]
    omega
/-- n as k bytes, most significant first. -/
def bytesOf : Nat → Nat → Bs
  | 0, _ => []
  | k + 1, n => bytesOf k (n / 256) ++ [UInt8.ofNat n]
theorem bytesOf_length : ∀ k n, (bytesOf k n).length = k
  | 0, n => rfl
  | k + 1, n => by simp [bytesOf, bytesOf_length k]
theorem num_bytesOf : ∀ k n, n < 256 ^ k → num (bytesOf k n) = n
  | 0, n, h => by simp at h; simp [bytesOf, num, h]
  | k + 1, n, h => by
    rw [Nat.pow_succ] at h
    rw [bytesOf, num_snoc, num_bytesOf k _ (by omega), UInt8.toNat_ofNat']
    omega
theorem bytesOf_num : ∀ (k : Nat) (l : Bs), l.length = k → bytesOf k (num l) = l := by
  intro k
  induction k with
  | zero => intro l h; rw [List.eq_nil_of_length_eq_zero h]; rfl
  | succ k ih =>
    intro l h
    rcases List.eq_nil_or_concat l with rfl | ⟨l', c, rfl⟩
    · simp at h
    · rw [List.concat_eq_append] at h ⊢
      have hc := c.toNat_lt
      rw [num_snoc, bytesOf, show (num l' * 256 + c.toNat) / 256 = num l' from by omega, ih l' (by simpa using h)]
      congr 2
      apply UInt8.toNat_inj.1
      rw [UInt8.toNat_ofNat']
      omega
theorem num_cons (c : UInt8) (l : Bs) : num (c :: l) = c.toNat * 256 ^ l.length + num l := by
  induction l using snoc_ind with
  | h0 => simp [num]
  | h1 l d ih =>
    rw [← List.cons_append, num_snoc, num_snoc, ih]
    simp only [List.length_append, List.length_singleton, Nat.pow_succ]
    rw [Nat.add_mul, Nat.mul_assoc]
    omega
theorem lt_num : ∀ (k : Nat) (x y : Bs), x.length = k → y.length = k → lt x y = decide (num x < num y)
  | 0, x, y, hx, hy => by rw [List.eq_nil_of_length_eq_zero hx, List.eq_nil_of_length_eq_zero hy]; simp [lt_irrefl]
  | k + 1, [], y, hx, _ => by simp at hx
  | k + 1, _ :: _, [], _, hy => by simp at hy
  | k + 1, a :: x, b :: y, hx, hy => by
    have h1 : x.length = k := by simpa using hx
    have h2 : y.length = k := by simpa using hy
    rw [lt_cons, lt_num k x y h1 h2, num_cons, num_cons, h1, h2]
    have n1 := num_lt x
    have n2 := num_lt y
    rw [h1] at n1
    rw [h2] at n2
    have hz : 0 < 256 ^ k := Nat.pow_pos (by omega)
    generalize 256 ^ k = M at *
    by_cases e : a = b
    · subst e
      simp [UInt8.lt_irrefl]
    · have he : a.toNat ≠ b.toNat := fun e' => e (UInt8.toNat_inj.1 e')
      simp only [e, decide_false, Bool.false_and, Bool.or_false]
      rw [decide_eq_decide, UInt8.lt_iff_toNat_lt]
      constructor
      · intro h
        have : (a.toNat + 1) * M ≤ b.toNat * M := Nat.mul_le_mul_right _ h
        rw [Nat.add_mul] at this
        omega
      · intro h
        rcases Nat.lt_or_ge a.toNat b.toNat with h' | h'
        · exact h'
        · have : (b.toNat + 1) * M ≤ a.toNat * M := Nat.mul_le_mul_right _ (by omega)
          rw [Nat.add_mul] at this
          omega
def maxNumber : Int := 1099511627776
def slot (n : Int) : Bs := if 0 ≤ n ∧ n ≤ maxNumber then bytesOf 8 n.toNat else []
def number (s : Bs) : Int × Bool := if s.length = 8 ∧ (num s : Int) ≤ maxNumber then (num s, true) else (0, false)
theorem slot_number {s : Bs} (h : (number s).2 = true) : slot (number s).1 = s := by
  unfold number at *
  split at h
  · rename_i hc
    rw [if_pos hc]
    unfold slot
    rw [if_pos ⟨by simp, hc.2⟩]
    simpa using bytesOf_num 8 s hc.1
  · cases h
theorem slot_nil {n : Int} (h : ¬ (0 ≤ n ∧ n ≤ maxNumber)) : slot n = [] := if_neg h
theorem slot_ne {n : Int} (h : slot n ≠ []) : 0 ≤ n ∧ n ≤ maxNumber := by
  by_cases c : 0 ≤ n ∧ n ≤ maxNumber
  · exact c
  · exact absurd (slot_nil c) h
theorem num_slot {n : Int} (h : 0 ≤ n ∧ n ≤ maxNumber) : num (slot n) = n.toNat ∧ (slot n).length = 8 := by
  unfold slot
  rw [if_pos h]
  refine ⟨num_bytesOf _ _ ?_, bytesOf_length _ _⟩
  have := h.2
  unfold maxNumber at this
  omega
theorem slot_lt {n m : Int} (hn : slot n ≠ []) (hm : slot m ≠ []) : lt (slot n) (slot m) = decide (n < m) := by
  have h1 := slot_ne hn
  have h2 := slot_ne hm
  rw [lt_num 8 _ _ (num_slot h1).2 (num_slot h2).2, (num_slot h1).1, (num_slot h2).1, decide_eq_decide]
  omega
theorem slot_eq {n m : Int} (hn : slot n ≠ []) (hm : slot m ≠ []) : slot n = slot m ↔ n = m := by
  have h1 := slot_ne hn
  have h2 := slot_ne hm
  constructor
  · intro e
    have := congrArg num e
    rw [(num_slot h1).1, (num_slot h2).1] at this
    omega
  · rintro rfl
    rfl
end P16
