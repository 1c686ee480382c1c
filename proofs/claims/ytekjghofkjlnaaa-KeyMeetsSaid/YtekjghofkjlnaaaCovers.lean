/- strings.Compare and Covers. -/
import Derived.Test.YtekjghofkjlnaaaRanges
import Derived.Lib.Bytealg
namespace Go.Proofs.Ytekjghofkjlnaaa
open Go.RowKit P16
attribute [local go_sem] ByteArray.mk_append_mk ByteArray.extract_mk mk_index leq_bs not_lt_bs

theorem cmp_le : ∀ x y : Bs, (0 < Lib.compareBytes x y) = (lt y x = true)
  | [], [] => by simp [Lib.compareBytes, lt, Op.bytesLess]
  | [], _ :: _ => by simp [Lib.compareBytes, lt, Op.bytesLess]
  | _ :: _, [] => by simp [Lib.compareBytes, lt, Op.bytesLess]
  | a :: la, b :: lb => by
    have ih := cmp_le la lb
    unfold lt at ih ⊢
    unfold Lib.compareBytes Op.bytesLess
    by_cases h : a < b
    · have h1 : ¬ b < a := UInt8.lt_asymm h
      have h2 : ¬ b = a := fun e => UInt8.lt_irrefl a (e ▸ h)
      simp [h, h1, h2]
    · by_cases h' : b < a
      · simp [h, h']
      · have e : b = a := UInt8.le_antisymm (UInt8.not_lt.1 h) (UInt8.not_lt.1 h')
        simp [h, h', e, ih]

theorem cmp_dec (x y : Bs) : decide (Lib.compareBytes x y ≤ 0) = !lt y x := by
  have h := cmp_le x y
  cases e : lt y x <;> rw [e] at h <;> simp at h <;> simp <;> omega

set_option maxHeartbeats 400000 in
theorem cmpString44 (a b : Bs) (w : World) : Calls Try.prog 44 #[.string ⟨a.toArray⟩, .string ⟨b.toArray⟩] w fun e w' => e = .returned (.int .i64 (Lib.compareBytes a b)) ∧ w' = w := by
  go_enter Try.func44, Try.ntmps44
  go_wp2
  rw [run_callFunc_extern Try.func45 (by kernel_rfl) (by kernel_rfl) (by kernel_rfl) (e := Extern.BytealgCompare.compare) (by kernel_rfl), Lib.run_compareString]
  simp only [Result.andThen]
  rw [Oper.upon_value]
  go_wp2
  go_ret
  exact ⟨rfl, rfl⟩
set_option maxHeartbeats 400000 in
theorem compare43 (a b : Bs) (w : World) : Calls Try.prog 43 #[.string ⟨a.toArray⟩, .string ⟨b.toArray⟩] w fun e w' => e = .returned (.int .i64 (Lib.compareBytes a b)) ∧ w' = w := by
  go_enter Try.func43, Try.ntmps43
  go_wp2_with (go_at_call 44; refine (cmpString44 _ _ _).mono ?_; rintro e w' ⟨rfl, rfl⟩)
  go_ret
  exact ⟨rfl, rfl⟩
set_option maxHeartbeats 1000000 in
theorem covers34 (a b : Rng) (w : World) : Calls Try.prog 34 #[rv a, rv b] w fun e w' => e = .returned (.bool (covers a b)) ∧ Below w.heap.size w w' := by
  obtain ⟨al, ah, ae⟩ := a
  obtain ⟨bl, bh, be⟩ := b
  have hv : covers ⟨al, ah, ae⟩ ⟨bl, bh, be⟩ = (emp ⟨bl, bh, be⟩ || (!lt bl al && (ae || !be && !lt ah bh))) := rfl
  cases h0 : emp ⟨bl, bh, be⟩ <;> cases h1 : lt bl al <;> cases ae <;> cases be <;> cases h2 : lt ah bh
  all_goals
    have h3 := cmp_dec bh ah
    rw [h2] at h3
    simp only [Bool.not_false, Bool.not_true] at h3
    rw [h0, h1, h2] at hv
    have HV := Lib.hid hv
    have H0 := Lib.hid h0
    clear hv h0 h2
    unfold rv
    go_enter Try.func34, Try.ntmps34
    go_wp2_with fail
    refine (isEmpty24 ⟨bl, bh, _⟩ _).mono ?_
    rintro e w2 ⟨rfl, hb2⟩
    rw [H0.out]
    obtain ⟨hc2, -⟩ := bcell hb2
    go_wp2_with (go_at_call 43; refine (compare43 _ _ _).mono ?_; rintro e w' ⟨rfl, rfl⟩)
    go_ret
    rw [HV.out]
    exact ⟨rfl, below_then_ (by go_grown) hb2⟩
end Go.Proofs.Ytekjghofkjlnaaa
