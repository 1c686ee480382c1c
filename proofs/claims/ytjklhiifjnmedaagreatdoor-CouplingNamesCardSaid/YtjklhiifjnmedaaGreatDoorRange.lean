/- The walks of the functions on ranges: each returns what its plain function says. -/
import Derived.Test.YtjklhiifjnmedaaGreatDoorRows
import Derived.Lib.Bytealg
import Derived.Test.YtjklhiifjnmedaaGreatDoorKit
import Derived.Test.YtjklhiifjnmedaaGreatDoorRng
import Derived.Laws.StructEq
import Derived.Handy
namespace Go.Proofs.YtjklhiifjnmedaaGreatDoor
open Go.RowKit P16
attribute [local go_sem] ByteArray.mk_append_mk ByteArray.extract_mk mk_index

/-- A range as the program holds it. -/
def rv (r : Rng) : Value := .agg #[.string ⟨r.low.toArray⟩, .string ⟨r.high.toArray⟩, .bool r.e]

theorem run_max_bs {P : Program} (w : World) (ts : Array TypeId) (t : TypeId) (x y : Bs) : (Builtin.max_ ts t #[.string ⟨x.toArray⟩, .string ⟨y.toArray⟩]).run P w = .ok (.string ⟨(mx x y).toArray⟩) w := by
  cases h : lt x y <;> simp [Builtin.max_, Builtin.max2, Op.stringOp, asBool, mx, h]
theorem run_min_bs {P : Program} (w : World) (ts : Array TypeId) (t : TypeId) (x y : Bs) : (Builtin.min_ ts t #[.string ⟨x.toArray⟩, .string ⟨y.toArray⟩]).run P w = .ok (.string ⟨(mn x y).toArray⟩) w := by
  have e := leq_eq x y
  have e2 : (Op.bytesLess x y = true ∨ x = y) ↔ ¬ lt y x = true := by
    rw [Bool.not_eq_true, ← Bool.not_eq_true', ← e]; simp
  by_cases h : lt y x = true
  · have : ¬ (Op.bytesLess x y = true ∨ x = y) := fun k => e2.1 k h
    simp [Builtin.min_, Builtin.min2, Op.stringOp, asBool, mn, h, this]
  · simp [Builtin.min_, Builtin.min2, Op.stringOp, asBool, mn, h, e2.2 h]
theorem leq_bs (x y : Bs) : (Op.bytesLess x y || x == y) = le x y := leq_eq x y
theorem not_lt_bs (x y : Bs) : (!Op.bytesLess x y) = le y x := rfl
attribute [local go_sem] run_max_bs run_min_bs leq_bs not_lt_bs

set_option maxHeartbeats 400000 in
theorem in23 (r : Rng) (k : Bs) (w : World) : Calls Tryz.prog 91 #[rv r, .string ⟨k.toArray⟩] w fun e w' => e = .returned (.bool (inR r k)) ∧ Below w.heap.size w w' := by
  obtain ⟨lo, hi, en⟩ := r
  have hv : inR ⟨lo, hi, en⟩ k = (le lo k && (en || le k hi)) := rfl
  have hmf : ∀ (fn : Fn) (first cap : Array Value) (w : World), (Instr.makeFunc fn first cap).run Tryz.prog w = .ok (.func fn first cap) w := fun _ _ _ _ => rfl
  cases h1 : le lo k <;> cases en <;> cases h2 : le k hi
  all_goals
    rw [h1, h2] at hv
    have HV := Lib.hid hv
    clear hv
    unfold rv
    go_enter Tryz.func91, Tryz.ntmps91
    go_wp2
    go_ret
    rw [HV.out]
    exact ⟨rfl, by go_grown⟩
set_option maxHeartbeats 400000 in
theorem isEmpty24 (r : Rng) (w : World) : Calls Tryz.prog 70 #[rv r] w fun e w' => e = .returned (.bool (emp r)) ∧ Below w.heap.size w w' := by
  have hv : emp r = !inR r r.low := by rw [inR_low]; simp
  have HV := Lib.hid hv
  clear hv
  obtain ⟨lo, hi, en⟩ := r
  unfold rv
  go_enter Tryz.func70, Tryz.ntmps70
  go_wp2_with fail
  refine (in23 ⟨lo, hi, en⟩ lo _).mono ?_
  rintro e w1 ⟨rfl, hb1⟩
  go_wp2_with fail
  go_ret
  rw [HV.out]
  exact ⟨rfl, below_then_ (by go_grown) hb1⟩
set_option maxHeartbeats 400000 in
theorem meet25 (a b : Rng) (w : World) : Calls Tryz.prog 123 #[rv a, rv b] w fun e w' => e = .returned (rv (meet a b)) ∧ Below w.heap.size w w' := by
  obtain ⟨al, ah, ae⟩ := a
  obtain ⟨bl, bh, be⟩ := b
  have hv : rv (meet ⟨al, ah, ae⟩ ⟨bl, bh, be⟩) = .agg #[.string ⟨(mx al bl).toArray⟩, .string ⟨(if ae && be then [] else if ae then bh else if be then ah else mn ah bh : Bs).toArray⟩, .bool (ae && be)] := rfl
  cases ae <;> cases be
  all_goals
    simp only [Bool.and_true, Bool.and_false, if_true, if_false, Bool.false_eq_true] at hv
    have HV := Lib.hid hv
    clear hv
    unfold rv
    go_enter Tryz.func123, Tryz.ntmps123
    go_wp2
    go_returns
    rw [← rv, HV.out]
    exact ⟨rfl, by go_grown⟩
set_option maxHeartbeats 400000 in
theorem overlap22 (a b : Rng) (w : World) : Calls Tryz.prog 99 #[rv a, rv b] w fun e w' => e = .returned (.bool (overlap a b)) ∧ Below w.heap.size w w' := by
  have hv : overlap a b = !emp (meet a b) := rfl
  have HV := Lib.hid hv
  clear hv
  obtain ⟨al, ah, ae⟩ := a
  obtain ⟨bl, bh, be⟩ := b
  unfold rv
  go_enter Tryz.func99, Tryz.ntmps99
  go_wp2_with fail
  refine (meet25 ⟨al, ah, ae⟩ ⟨bl, bh, be⟩ _).mono ?_
  rintro e w1 ⟨rfl, hb1⟩
  go_wp2_with fail
  refine (isEmpty24 _ _).mono ?_
  rintro e w2 ⟨rfl, hb2⟩
  go_wp2_with fail
  go_ret
  rw [HV.out]
  exact ⟨rfl, below_then (below_then_ (by go_grown) hb1) hb2⟩
theorem cmp_le : ∀ x y : Bs, (0 < Lib.compareBytes x y) = (lt y x = true)
  | [], [] => by simp [Lib.compareBytes, lt, Op.bytesLess]
  | [], _ :: _ => by simp [Lib.compareBytes, lt, Op.bytesLess]
  | _ :: _, [] => by simp [Lib.compareBytes, lt, Op.bytesLess]
  | a :: la, b :: lb => by
    have ih := cmp_le la lb
    unfold lt at ih ⊢
    unfold Lib.compareBytes Op.bytesLess
    by_cases h : a < b
    · have h1 : ¬ b < a := UInt8.lt_asymm h
      have h2 : ¬ b = a := fun e => UInt8.lt_irrefl a (e ▸ h)
      simp [h, h1, h2]
    · by_cases h' : b < a
      · simp [h, h']
      · have e : b = a := UInt8.le_antisymm (UInt8.not_lt.1 h) (UInt8.not_lt.1 h')
        simp [e, ih]

theorem cmp_dec (x y : Bs) : decide (Lib.compareBytes x y ≤ 0) = !lt y x := by
  have h := cmp_le x y
  cases e : lt y x <;> rw [e] at h <;> simp at h <;> simp <;> omega

set_option maxRecDepth 8000 in
set_option maxHeartbeats 400000 in
theorem cmpString44 (a b : Bs) (w : World) : Calls Tryz.prog 137 #[.string ⟨a.toArray⟩, .string ⟨b.toArray⟩] w fun e w' => e = .returned (.int .i64 (Lib.compareBytes a b)) ∧ w' = w := by
  go_enter Tryz.func137, Tryz.ntmps137
  go_wp2
  rw [run_callFunc_extern Tryz.func144 (by kernel_rfl) (by kernel_rfl) (by kernel_rfl) (e := Extern.BytealgCompare.compare) (by kernel_rfl), Lib.run_compareString]
  simp only [Result.andThen]
  rw [Oper.upon_value]
  go_wp2
  go_ret
  exact ⟨rfl, rfl⟩
set_option maxHeartbeats 400000 in
theorem compare43 (a b : Bs) (w : World) : Calls Tryz.prog 122 #[.string ⟨a.toArray⟩, .string ⟨b.toArray⟩] w fun e w' => e = .returned (.int .i64 (Lib.compareBytes a b)) ∧ w' = w := by
  go_enter Tryz.func122, Tryz.ntmps122
  go_wp2_with (go_at_call 137; refine (cmpString44 _ _ _).mono ?_; rintro e w' ⟨rfl, rfl⟩)
  go_ret
  exact ⟨rfl, rfl⟩
set_option maxHeartbeats 1000000 in
theorem covers34 (a b : Rng) (w : World) : Calls Tryz.prog 94 #[rv a, rv b] w fun e w' => e = .returned (.bool (covers a b)) ∧ Below w.heap.size w w' := by
  obtain ⟨al, ah, ae⟩ := a
  obtain ⟨bl, bh, be⟩ := b
  have hv : covers ⟨al, ah, ae⟩ ⟨bl, bh, be⟩ = (emp ⟨bl, bh, be⟩ || (!lt bl al && (ae || !be && !lt ah bh))) := rfl
  cases h0 : emp ⟨bl, bh, be⟩ <;> cases h1 : lt bl al <;> cases ae <;> cases be <;> cases h2 : lt ah bh
  all_goals
    have h3 := cmp_dec bh ah
    rw [h2] at h3
    simp only [Bool.not_false, Bool.not_true] at h3
    rw [h0, h1, h2] at hv
    have HV := Lib.hid hv
    have H0 := Lib.hid h0
    clear hv h0 h2
    unfold rv
    go_enter Tryz.func94, Tryz.ntmps94
    go_wp2_with fail
    refine (isEmpty24 ⟨bl, bh, _⟩ _).mono ?_
    rintro e w2 ⟨rfl, hb2⟩
    rw [H0.out]
    obtain ⟨hc2, -⟩ := bcell hb2
    go_wp2_with (go_at_call 122; refine (compare43 _ _ _).mono ?_; rintro e w' ⟨rfl, rfl⟩)
    go_ret
    rw [HV.out]
    exact ⟨rfl, below_then_ (by go_grown) hb2⟩
end Go.Proofs.YtjklhiifjnmedaaGreatDoor
