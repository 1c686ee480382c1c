/- play: a new manager after acts. -/
import Derived.Test.YtkabfjknpjhonaaLkDo
import Derived.Laws.Pointers
namespace Go.Proofs.Ytkabfjknpjhonaa
open Go.RowKit P16 P46
attribute [local go_sem] ByteArray.mk_append_mk ByteArray.extract_mk mk_index

/-- The state after acts. -/
noncomputable def playS (xs : List ActL) : St := xs.foldl (fun s a => (act s a.kind a.l).1) ⟨[], []⟩
theorem playS_take {xs : List ActL} {k : Nat} {a : ActL} (h : xs[k]? = some a) : playS (xs.take (k + 1)) = (act (playS (xs.take k)) a.kind a.l).1 := by
  unfold playS
  rw [take_snoc h, List.foldl_append]
  rfl
theorem valids_nil : Valids ⟨[], []⟩ := ⟨(fun l hl => (by cases hl)), (fun l hl => (by cases hl))⟩
theorem playS_inv : ∀ (n : Nat) (xs : List ActL), xs.length = n → P46.Good (playS xs) ∧ Valids (playS xs) ∧ (playS xs).h.length + (playS xs).q.length ≤ n := by
  intro n
  induction n with
  | zero =>
    intro xs h
    have : xs = [] := List.eq_nil_of_length_eq_zero h
    subst this
    exact ⟨good_nil, valids_nil, by simp [playS]⟩
  | succ n ih =>
    intro xs h
    have hx : xs = xs.take n ++ [xs[n]] := by
      rw [← take_snoc (List.getElem?_eq_getElem (by omega)), List.take_of_length_le (by omega)]
    have e : playS xs = (act (playS (xs.take n)) (xs[n]).kind (xs[n]).l).1 := by
      conv => lhs; rw [← List.take_of_length_le (l := xs) (i := n + 1) (by omega)]
      exact playS_take (List.getElem?_eq_getElem (by omega))
    obtain ⟨h1, h2, h3⟩ := ih (xs.take n) (by simp; omega)
    rw [e]
    refine ⟨act_good h1 _ _, act_valids h2 _ _, ?_⟩
    have := act_len (playS (xs.take n)) (xs[n]).kind (xs[n]).l
    omega
theorem playS_good (xs : List ActL) : P46.Good (playS xs) := (playS_inv _ xs rfl).1
theorem playS_valids (xs : List ActL) : Valids (playS xs) := (playS_inv _ xs rfl).2.1
theorem playS_len (xs : List ActL) : (playS xs).h.length + (playS xs).q.length ≤ xs.length := (playS_inv _ xs rfl).2.2
set_option maxRecDepth 100000 in
set_option maxHeartbeats 2000000 in
theorem lkPlay (A : Option Addr) (n c : Nat) (xs : List ActL) (w : World) (ha : ActsAt w A n xs) (hn : n ≤ 90000) :
    Calls Try.prog 24 #[.slice A n c] w fun e w' => ∃ p vh vq, e = .returned (.pointer (some ⟨p, 0, none⟩)) ∧ Mgr w' w.heap.size p (playS xs).h (playS xs).q vh vq ∧ Below w.heap.size w w' := by
  have HA := Lib.hid ha
  clear ha
  have hlenA : (Try.prog.info? 34).map (·.size) = some 7 := by kernel_rfl
  have hnp : ∀ (w : World) (p : Option Addr), (binOp .neq 25 (.pointer p) (.pointer none)).run Try.prog w = .ok (.bool (p.isSome)) w := fun w p => by cases p <;> simp [run_neq_pointer_nil w 25 _ (by kernel_rfl : Try.prog.underlying 25 = some (.pointer (Try.prog.pointee 25)))]
  go_enter Try.func24, Try.ntmps24
  go_wp2_with fail
  refine (lkNew none 0 0 [] w LocksAt.nil (by omega)).mono ?_
  rintro e w1 ⟨p, vh1, rfl, hm1, hb1⟩
  have HM1 := Lib.hid (show Mgr w1 w.heap.size p (playS (xs.take 0)).h (playS (xs.take 0)).q vh1 (.slice none 0 0) from hm1)
  have HB1 := Lib.hid hb1
  clear hm1 hb1
  go_wp2
  go_loopw [9] (fun i wr => ∃ (k : Nat) (vh vq : Value), k ≤ n ∧ i = .int .i64 k ∧ Mgr wr w.heap.size p (playS (xs.take k)).h (playS (xs.take k)).q vh vq ∧ Below w.heap.size w wr) (fun i _ => n - (intOf i).toNat)
  case atStart => exact ⟨0, _, _, Nat.zero_le _, rfl, HM1.out, HB1.out⟩
  case round =>
    obtain ⟨k, vh, vq, hk, rfl, hm, hbw⟩ := hrel
    have HM := Lib.hid hm
    have HB := Lib.hid hbw
    have hsz := hbw.size
    clear hm hbw
    by_cases hlt : k < n
    · have hs := HA.out.below HB.out
      obtain ⟨b, off, a, rfl, hx⟩ := hs.at_ hlt
      have HR := Lib.hid (hs.row hx)
      have HX := Lib.hid (playS_take hx)
      clear hs hx
      go_upto_region 5 with (refine wpList_load_cells rfl 34 (.tmp 11) rfl ⟨b, off + k * 7, none⟩ rfl _ _ HR.out Try.underlying34 rfl hlenA ?_)
      obtain ⟨w4, g4, e1, e2, hb4, h4⟩ := boxes1 wr 34 (aa a)
      unfold aa at e1
      rw [e1, e2]
      have HM4 := Lib.hid (HM.out.below hb4)
      have HB4 := Lib.hid (HB.out.trans (hb4.mono hsz))
      have HC4 := Lib.hid h4.add
      clear e1 e2 hb4 h4
      have HL := Lib.hid (show (playS (xs.take k)).h.length + (playS (xs.take k)).q.length < 100000 from by
        have h1 := playS_len (xs.take k)
        have h2 := List.length_take_le k xs
        omega)
      go_wp2_with (refine wpList_load_cells rfl 34 (.tmp 5) rfl ⟨g4, 0, none⟩ rfl _ _ HC4.out Try.underlying34 rfl hlenA ?_)
      refine (lkDo a w.heap.size p _ _ vh vq _ HM4.out HL.out (playS_good _) (playS_valids _)).mono ?_
      rintro e w5 ⟨v5, vh5, vq5, rfl, -, hm5, hv5, -⟩
      have HM5 := Lib.hid hm5
      have HB5 := Lib.hid (HB4.out.trans (hv5.below (B := w.heap.size) (fun k hk => (HM4.out.ge hk).1) HB4.out.size))
      clear hm5 hv5
      go_wp2
      go_roundw
      case rel => exact ⟨k + 1, vh5, vq5, by omega, by go_num, by rw [HX.out]; exact HM5.out, HB5.out⟩
      case measure => simp [intOf]; omega
    · have hkn : k = n := by omega
      subst hkn
      go_wp2
      go_ret
      have hm := HM.out
      rw [List.take_of_length_le (by rw [HA.out.len]; exact Nat.le_refl _)] at hm
      exact ⟨p, vh, vq, rfl, hm, HB.out⟩
end Go.Proofs.Ytkabfjknpjhonaa
