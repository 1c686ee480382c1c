/- slices.IndexFunc and slices.ContainsFunc over locks, for a closure with one captured box. -/
import Derived.Test.YtjklhiifjnmedaaGreatDoorRows
import Derived.Test.YtjklhiifjnmedaaGreatDoorMem
import Derived.Laws.StructEq
import Derived.Handy
namespace Go.Proofs.YtjklhiifjnmedaaGreatDoor
open Go.RowKit P16 P46

/-- A closure that captured the box at block b. -/
def clo (g b : Nat) : Value := .func (.func g) #[] #[.pointer (some ⟨b, 0, none⟩)]
/-- The closure answers f. -/
structure Asks (g b : Nat) (f : Lock → Bool) (w : World) : Prop where
  known : ∀ (args : Array Value) (W : World), Sem.run Tryz.prog (callFunc g args) W = .ok (.enter g args) W
  ask : ∀ (l : Lock) (W : World), Below w.heap.size w W → Calls Tryz.prog g #[lv l, .pointer (some ⟨b, 0, none⟩)] W fun e W' => e = .returned (.bool (f l)) ∧ Below W.heap.size W W'
theorem Asks.below {g b : Nat} {f : Lock → Bool} {w w' : World} (h : Asks g b f w) (hb : Below w.heap.size w w') : Asks g b f w' := ⟨h.known, fun l W hW => h.ask l W (hb.trans (hW.mono hb.size))⟩
def fIdx (f : Lock → Bool) (ls : List Lock) : Int := match ls.findIdx? f with | some i => i | none => -1
theorem fIdx_none {f : Lock → Bool} {ls : List Lock} (h : ∀ (j : Nat) (l : Lock), ls[j]? = some l → f l = false) : fIdx f ls = -1 := by
  unfold fIdx
  have : ls.findIdx? f = none := by
    rw [List.findIdx?_eq_none_iff]
    intro l hl
    obtain ⟨j, hj⟩ := List.mem_iff_getElem?.1 hl
    exact h j l hj
  rw [this]
theorem fIdx_some {f : Lock → Bool} {ls : List Lock} {k : Nat} {l : Lock} (hl : ls[k]? = some l) (hf : f l = true) (h : ∀ (j : Nat), j < k → ∀ l : Lock, ls[j]? = some l → f l = false) : fIdx f ls = k := by
  unfold fIdx
  have : ls.findIdx? f = some k := by
    rw [List.findIdx?_eq_some_iff_getElem]
    have hk := (List.getElem?_eq_some_iff.1 hl)
    have hk1 := hk.1
    refine ⟨hk.1, by rw [hk.2]; exact hf, fun j hj => ?_⟩
    simpa using h j hj _ (List.getElem?_eq_getElem (by omega))
  rw [this]
theorem fIdx_any (f : Lock → Bool) (ls : List Lock) : decide (0 ≤ fIdx f ls) = ls.any f := by
  unfold fIdx
  cases h : ls.findIdx? f with
  | none =>
    rw [List.findIdx?_eq_none_iff] at h
    have : ls.any f = false := by rw [List.any_eq_false]; simpa using h
    rw [this]
    rfl
  | some i =>
    rw [List.findIdx?_eq_some_iff_getElem] at h
    obtain ⟨hi, hf, -⟩ := h
    have : ls.any f = true := List.any_eq_true.2 ⟨_, List.getElem_mem hi, hf⟩
    rw [this]
    simp

set_option maxRecDepth 100000 in
set_option maxHeartbeats 400000 in
theorem lkIndexFunc (g b0 : Nat) (f : Lock → Bool) (A : Option Addr) (n c : Nat) (ls : List Lock) (w : World) (h : LocksAt w A n ls) (hn : n ≤ 1000000) (hf : Asks g b0 f w) :
    Calls Tryz.prog 79 #[.slice A n c, clo g b0] w fun e w' => e = .returned (.int .i64 (fIdx f ls)) ∧ Below w.heap.size w w' := by
  have H := Lib.hid h
  have HF := Lib.hid hf
  clear h hf
  have hlenL : (Tryz.prog.info? 46).map (·.size) = some 6 := by kernel_rfl
  go_enter Tryz.func79, Tryz.ntmps79
  go_wp2
  go_loopw [8] (fun i wr => ∃ k : Nat, k ≤ n ∧ i = .int .i64 k ∧ Hid (∀ j, j < k → ∀ l, ls[j]? = some l → f l = false) ∧ Below w.heap.size w wr) (fun i _ => n - (intOf i).toNat)
  case atStart => exact ⟨0, Nat.zero_le _, rfl, fun j hj => absurd hj (by omega), Below.refl _ _⟩
  case round =>
    obtain ⟨k, hk, rfl, hall, hbw⟩ := hrel
    have hsz := hbw.size
    by_cases hlt : k < n
    · have HW := Lib.hid (H.out.below hbw)
      obtain ⟨b, off, l, rfl, hl, -⟩ := HW.out.at_ hlt
      have HL := Lib.hid hl
      have HR := Lib.hid (HW.out.row hl)
      clear hl
      have hkn := HF.out.known
      unfold clo
      go_wp2_with (refine wpList_load_cells rfl 46 (.tmp 14) rfl ⟨b, off + k * 6, none⟩ rfl _ _ HR.out Tryz.underlying46 rfl hlenL ?_)
      refine (HF.out.ask l _ hbw).mono ?_
      rintro e w2 ⟨rfl, hb2⟩
      have HB2 := Lib.hid (hbw.trans (hb2.mono hsz))
      clear hb2
      cases hfl : f l with
      | true =>
        have HO := Lib.hid (fIdx_some HL.out hfl hall.out)
        clear hfl
        go_wp2
        go_ret
        exact ⟨by rw [HO.out]; rfl, HB2.out⟩
      | false =>
        have HFL := Lib.hid hfl
        clear hfl
        go_wp2
        go_roundw
        case rel =>
          refine ⟨k + 1, by omega, by go_num, ?_, HB2.out⟩
          intro j hj l2 hl2
          by_cases hjk : j = k
          · subst hjk
            rw [HL.out] at hl2
            injection hl2 with e
            rw [← e]
            exact HFL.out
          · exact hall.out j (by omega) l2 hl2
        case measure => simp [intOf]; omega
    · have HO := Lib.hid (fIdx_none (f := f) (ls := ls) fun j l hl => hall.out j (by have := H.out.len; have := (List.getElem?_eq_some_iff.1 hl).1; omega) l hl)
      go_wp2
      go_ret
      exact ⟨by rw [HO.out]; rfl, hbw⟩
set_option maxRecDepth 100000 in
theorem lkContainsFunc (g b0 : Nat) (f : Lock → Bool) (A : Option Addr) (n c : Nat) (ls : List Lock) (w : World) (h : LocksAt w A n ls) (hn : n ≤ 1000000) (hf : Asks g b0 f w) :
    Calls Tryz.prog 80 #[.slice A n c, clo g b0] w fun e w' => e = .returned (.bool (ls.any f)) ∧ Below w.heap.size w w' := by
  have H := Lib.hid h
  have HF := Lib.hid hf
  have HO := Lib.hid (fIdx_any f ls)
  clear h hf
  go_enter Tryz.func80, Tryz.ntmps80
  go_wp2_with (go_at_call 79; refine (lkIndexFunc _ _ f _ _ _ _ _ H.out hn HF.out).mono ?_; rintro e w2 ⟨rfl, hb2⟩)
  go_ret
  exact ⟨by rw [← HO.out]; rfl, hb2⟩
end Go.Proofs.YtjklhiifjnmedaaGreatDoor
