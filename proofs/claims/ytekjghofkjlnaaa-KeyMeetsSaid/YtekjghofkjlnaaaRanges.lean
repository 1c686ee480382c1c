/- The walks of the functions on ranges: each returns what its plain function says. -/
import Derived.Test.YtekjghofkjlnaaaRows
import Derived.Test.YtekjghofkjlnaaaKit
import Derived.Test.YtekjghofkjlnaaaPlain
import Derived.Laws.StructEq
import Derived.Handy
namespace Go.Proofs.Ytekjghofkjlnaaa
open Go.RowKit P16
attribute [local go_sem] ByteArray.mk_append_mk ByteArray.extract_mk mk_index

/-- A range as the program holds it. -/
def rv (r : Rng) : Value := .agg #[.string ⟨r.low.toArray⟩, .string ⟨r.high.toArray⟩, .bool r.e]

theorem run_max_bs {P : Program} (w : World) (ts : Array TypeId) (t : TypeId) (x y : Bs) : (Builtin.max_ ts t #[.string ⟨x.toArray⟩, .string ⟨y.toArray⟩]).run P w = .ok (.string ⟨(mx x y).toArray⟩) w := by
  cases h : lt x y <;> simp [Builtin.max_, Builtin.max2, Op.stringOp, asBool, mx, h]
theorem run_min_bs {P : Program} (w : World) (ts : Array TypeId) (t : TypeId) (x y : Bs) : (Builtin.min_ ts t #[.string ⟨x.toArray⟩, .string ⟨y.toArray⟩]).run P w = .ok (.string ⟨(mn x y).toArray⟩) w := by
  have e := leq_eq x y
  have e2 : (Op.bytesLess x y = true ∨ x = y) ↔ ¬ lt y x = true := by
    rw [Bool.not_eq_true, ← Bool.not_eq_true', ← e]; simp
  by_cases h : lt y x = true
  · have : ¬ (Op.bytesLess x y = true ∨ x = y) := fun k => e2.1 k h
    simp [Builtin.min_, Builtin.min2, Op.stringOp, asBool, mn, h, this]
  · simp [Builtin.min_, Builtin.min2, Op.stringOp, asBool, mn, h, e2.2 h]
theorem leq_bs (x y : Bs) : (Op.bytesLess x y || x == y) = le x y := leq_eq x y
theorem not_lt_bs (x y : Bs) : (!Op.bytesLess x y) = le y x := rfl
attribute [local go_sem] run_max_bs run_min_bs leq_bs not_lt_bs

set_option maxHeartbeats 400000 in
theorem refIn30 (r : Rng) (k : Bs) (w : World) : Calls Try.prog 30 #[rv r, .string ⟨k.toArray⟩] w fun e w' => e = .returned (.bool (inR r k)) ∧ Below w.heap.size w w' := by
  obtain ⟨lo, hi, en⟩ := r
  have hv : inR ⟨lo, hi, en⟩ k = (le lo k && (en || le k hi)) := rfl
  cases h1 : le lo k <;> cases en <;> cases h2 : le k hi
  all_goals
    rw [h1, h2] at hv
    have HV := Lib.hid hv
    clear hv
    unfold rv
    go_enter Try.func30, Try.ntmps30
    go_wp2
    go_ret
    rw [HV.out]
    exact ⟨rfl, below_alloc (Below.refl _ _) _⟩
set_option maxHeartbeats 400000 in
theorem refEmpty31 (r : Rng) (w : World) : Calls Try.prog 31 #[rv r] w fun e w' => e = .returned (.bool (emp r)) ∧ Below w.heap.size w w' := by
  obtain ⟨lo, hi, en⟩ := r
  have hv : emp ⟨lo, hi, en⟩ = (!en && Op.bytesLess hi lo) := rfl
  cases h1 : Op.bytesLess hi lo <;> cases en
  all_goals
    rw [h1] at hv
    have HV := Lib.hid hv
    clear hv
    unfold rv
    go_enter Try.func31, Try.ntmps31
    go_wp2
    go_ret
    rw [HV.out]
    exact ⟨rfl, below_alloc (Below.refl _ _) _⟩
set_option maxHeartbeats 400000 in
theorem refMeet32 (a b : Rng) (w : World) : Calls Try.prog 32 #[rv a, rv b] w fun e w' => e = .returned (rv (meet a b)) ∧ Below w.heap.size w w' := by
  obtain ⟨al, ah, ae⟩ := a
  obtain ⟨bl, bh, be⟩ := b
  have hv : rv (meet ⟨al, ah, ae⟩ ⟨bl, bh, be⟩) = .agg #[.string ⟨(mx al bl).toArray⟩, .string ⟨(if ae && be then [] else if ae then bh else if be then ah else mn ah bh : Bs).toArray⟩, .bool (ae && be)] := rfl
  cases ae <;> cases be
  all_goals
    simp only [Bool.and_true, Bool.and_false, Bool.false_and, Bool.true_and, if_true, if_false, Bool.false_eq_true] at hv
    have HV := Lib.hid hv
    clear hv
    unfold rv
    go_enter Try.func32, Try.ntmps32
    go_wp2
    go_returns
    rw [← rv, HV.out]
    exact ⟨rfl, by go_grown⟩
set_option maxHeartbeats 400000 in
theorem refOverlap33 (a b : Rng) (w : World) : Calls Try.prog 33 #[rv a, rv b] w fun e w' => e = .returned (.bool (overlap a b)) ∧ Below w.heap.size w w' := by
  have hv : overlap a b = !emp (meet a b) := rfl
  have HV := Lib.hid hv
  clear hv
  obtain ⟨al, ah, ae⟩ := a
  obtain ⟨bl, bh, be⟩ := b
  unfold rv
  go_enter Try.func33, Try.ntmps33
  go_wp2_with fail
  refine (refMeet32 ⟨al, ah, ae⟩ ⟨bl, bh, be⟩ _).mono ?_
  rintro e w1 ⟨rfl, hb1⟩
  go_wp2_with fail
  refine (refEmpty31 _ _).mono ?_
  rintro e w2 ⟨rfl, hb2⟩
  go_wp2_with fail
  go_ret
  rw [HV.out]
  exact ⟨rfl, below_then (below_then_ (by go_grown) hb1) hb2⟩
set_option maxHeartbeats 400000 in
theorem in23 (r : Rng) (k : Bs) (w : World) : Calls Try.prog 23 #[rv r, .string ⟨k.toArray⟩] w fun e w' => e = .returned (.bool (inR r k)) ∧ Below w.heap.size w w' := by
  obtain ⟨lo, hi, en⟩ := r
  have hv : inR ⟨lo, hi, en⟩ k = (le lo k && (en || le k hi)) := rfl
  have hmf : ∀ (fn : Fn) (first cap : Array Value) (w : World), (Instr.makeFunc fn first cap).run Try.prog w = .ok (.func fn first cap) w := fun _ _ _ _ => rfl
  cases h1 : le lo k <;> cases en <;> cases h2 : le k hi
  all_goals
    rw [h1, h2] at hv
    have HV := Lib.hid hv
    clear hv
    unfold rv
    go_enter Try.func23, Try.ntmps23
    go_wp2
    go_ret
    rw [HV.out]
    exact ⟨rfl, by go_grown⟩
set_option maxHeartbeats 400000 in
theorem isEmpty24 (r : Rng) (w : World) : Calls Try.prog 24 #[rv r] w fun e w' => e = .returned (.bool (emp r)) ∧ Below w.heap.size w w' := by
  have hv : emp r = !inR r r.low := by rw [inR_low]; simp
  have HV := Lib.hid hv
  clear hv
  obtain ⟨lo, hi, en⟩ := r
  unfold rv
  go_enter Try.func24, Try.ntmps24
  go_wp2_with fail
  refine (in23 ⟨lo, hi, en⟩ lo _).mono ?_
  rintro e w1 ⟨rfl, hb1⟩
  go_wp2_with fail
  go_ret
  rw [HV.out]
  exact ⟨rfl, below_then_ (by go_grown) hb1⟩
set_option maxHeartbeats 400000 in
theorem meet25 (a b : Rng) (w : World) : Calls Try.prog 25 #[rv a, rv b] w fun e w' => e = .returned (rv (meet a b)) ∧ Below w.heap.size w w' := by
  obtain ⟨al, ah, ae⟩ := a
  obtain ⟨bl, bh, be⟩ := b
  have hv : rv (meet ⟨al, ah, ae⟩ ⟨bl, bh, be⟩) = .agg #[.string ⟨(mx al bl).toArray⟩, .string ⟨(if ae && be then [] else if ae then bh else if be then ah else mn ah bh : Bs).toArray⟩, .bool (ae && be)] := rfl
  cases ae <;> cases be
  all_goals
    simp only [Bool.and_true, Bool.and_false, Bool.false_and, Bool.true_and, if_true, if_false, Bool.false_eq_true] at hv
    have HV := Lib.hid hv
    clear hv
    unfold rv
    go_enter Try.func25, Try.ntmps25
    go_wp2
    go_returns
    rw [← rv, HV.out]
    exact ⟨rfl, by go_grown⟩
set_option maxHeartbeats 400000 in
theorem overlap22 (a b : Rng) (w : World) : Calls Try.prog 22 #[rv a, rv b] w fun e w' => e = .returned (.bool (overlap a b)) ∧ Below w.heap.size w w' := by
  have hv : overlap a b = !emp (meet a b) := rfl
  have HV := Lib.hid hv
  clear hv
  obtain ⟨al, ah, ae⟩ := a
  obtain ⟨bl, bh, be⟩ := b
  unfold rv
  go_enter Try.func22, Try.ntmps22
  go_wp2_with fail
  refine (meet25 ⟨al, ah, ae⟩ ⟨bl, bh, be⟩ _).mono ?_
  rintro e w1 ⟨rfl, hb1⟩
  go_wp2_with fail
  refine (isEmpty24 _ _).mono ?_
  rintro e w2 ⟨rfl, hb2⟩
  go_wp2_with fail
  go_ret
  rw [HV.out]
  exact ⟨rfl, below_then (below_then_ (by go_grown) hb1) hb2⟩
set_option maxHeartbeats 400000 in
theorem point36 (k : Bs) (w : World) : Calls Try.prog 36 #[.string ⟨k.toArray⟩] w fun e w' => e = .returned (rv ⟨k, k, false⟩) ∧ Below w.heap.size w w' := by
  unfold rv
  go_enter Try.func36, Try.ntmps36
  go_wp2
  go_returns
  exact ⟨rfl, by go_grown⟩
set_option maxHeartbeats 400000 in
theorem from37 (k : Bs) (w : World) : Calls Try.prog 37 #[.string ⟨k.toArray⟩] w fun e w' => e = .returned (rv ⟨k, [], true⟩) ∧ Below w.heap.size w w' := by
  unfold rv
  go_enter Try.func37, Try.ntmps37
  go_wp2
  go_returns
  exact ⟨rfl, by go_grown⟩
set_option maxHeartbeats 400000 in
theorem refCovers35 (a b : Rng) (w : World) : Calls Try.prog 35 #[rv a, rv b] w fun e w' => e = .returned (.bool (covers a b)) ∧ Below w.heap.size w w' := by
  obtain ⟨al, ah, ae⟩ := a
  obtain ⟨bl, bh, be⟩ := b
  have hv : covers ⟨al, ah, ae⟩ ⟨bl, bh, be⟩ = (emp ⟨bl, bh, be⟩ || (le al bl && (ae || !be && le bh ah))) := rfl
  cases h0 : emp ⟨bl, bh, be⟩ <;> cases h1 : le al bl <;> cases ae <;> cases be <;> cases h2 : le bh ah
  all_goals
    rw [h0, h1, h2] at hv
    have HV := Lib.hid hv
    have H0 := Lib.hid h0
    clear hv h0
    unfold rv
    go_enter Try.func35, Try.ntmps35
    go_wp2_with fail
    refine (refEmpty31 ⟨bl, bh, _⟩ _).mono ?_
    rintro e w2 ⟨rfl, hb2⟩
    rw [H0.out]
    obtain ⟨hc2, -⟩ := bcell hb2
    go_wp2_with fail
    go_ret
    rw [HV.out]
    exact ⟨rfl, below_then_ (by go_grown) hb2⟩
end Go.Proofs.Ytekjghofkjlnaaa
