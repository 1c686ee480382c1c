/- Lists of numbers and of locks are compared (the reference's Ints and Locks). -/
import Derived.Test.YtjklhiifjnmedaaGreatDoorLkPut
import Derived.Test.YtjklhiifjnmedaaGreatDoorLkEq
import Derived.Deep.QuietTactic
import Derived.BigQuiet
namespace Go.Proofs.YtjklhiifjnmedaaGreatDoor
open Go.RowKit P16 P46
attribute [local go_sem] ByteArray.mk_append_mk ByteArray.extract_mk mk_index

/-- The slice reads as the numbers. -/
def IntsAt (w : World) (A : Option Addr) (n : Nat) (xs : List Int) : Prop := CellsAt w A n 1 (xs.map (Value.int .i64))
section
variable {w w' : World} {A : Option Addr} {n : Nat} {xs : List Int}
theorem IntsAt.nil : IntsAt w A 0 [] := ⟨rfl, fun j u h => by simp at h⟩
theorem IntsAt.len (h : IntsAt w A n xs) : xs.length = n := by have := h.1; simpa using this
theorem IntsAt.below (h : IntsAt w A n xs) (hb : Below w.heap.size w w') : IntsAt w' A n xs := CellsAt.below h hb
theorem IntsAt.at_ (h : IntsAt w A n xs) {k : Nat} (hk : k < n) : ∃ b off x, A = some ⟨b, off, none⟩ ∧ xs[k]? = some x ∧ w.cell? ⟨b, off + k, none⟩ = some (.int .i64 x) := by
  have hl := h.len
  have hk' : k < xs.length := by omega
  obtain ⟨b, off, h1, h2⟩ := h.2 k (.int .i64 xs[k]) (by rw [List.getElem?_map, List.getElem?_eq_getElem hk']; rfl)
  exact ⟨b, off, xs[k], h1, List.getElem?_eq_getElem hk', h2⟩
end
theorem OwnI.cells {w : World} {B : Nat} {v : Value} {xs : List Int} (h : OwnI w B v xs) : ∃ A c, v = .slice A xs.length c ∧ IntsAt w A xs.length xs ∧ xs.length ≤ maxLen := by
  rcases h.2 with ⟨rfl, h0⟩ | ⟨g, cap, cur, rfl, _, _, h1, h2, _⟩
  · have : xs = [] := List.eq_nil_of_length_eq_zero h0
    subst this
    exact ⟨none, 0, rfl, IntsAt.nil, Nat.zero_le _⟩
  · refine ⟨_, _, rfl, ⟨by simp, fun j u hj => ⟨g, 0, rfl, ?_⟩⟩, Nat.le_trans h1 h2⟩
    have hc := World.ownsRow.cells h (g := g) rfl j u hj
    rw [Addr.add_lit] at hc
    exact hc
theorem take_eq_snoc {α : Type} {xs ys : List α} {k : Nat} {x : α} (h : xs.take k = ys.take k) (hx : xs[k]? = some x) (hy : ys[k]? = some x) : xs.take (k + 1) = ys.take (k + 1) := by
  rw [take_snoc hx, take_snoc hy, h]
theorem take_ne {α : Type} {xs ys : List α} {k : Nat} {x y : α} (hx : xs[k]? = some x) (hy : ys[k]? = some y) (hne : x ≠ y) : xs ≠ ys := by
  rintro rfl
  rw [hx] at hy
  injection hy with hy
  exact hne hy
set_option maxRecDepth 100000 in
set_option maxHeartbeats 1000000 in
theorem refInts (A1 A2 : Option Addr) (n1 n2 c1 c2 : Nat) (xs ys : List Int) (w : World) (h1 : IntsAt w A1 n1 xs) (h2 : IntsAt w A2 n2 ys) (hn : n1 ≤ 1000000) :
    Calls Tryz.prog 13 #[.slice A1 n1 c1, .slice A2 n2 c2] w fun e w' => e = .returned (.bool (decide (xs = ys))) ∧ Below w.heap.size w w' := by
  have H1 := Lib.hid h1
  have H2 := Lib.hid h2
  have l1 := h1.len
  have l2 := h2.len
  clear h1 h2
  by_cases hl : (n1 : Int) = (n2 : Int)
  · have hl' : n1 = n2 := by omega
    subst hl'
    have L1 := Lib.hid l1
    have L2 := Lib.hid l2
    clear l1 l2 hl
    go_enter Tryz.func13, Tryz.ntmps13
    go_wp2
    go_loopw [5] (fun i wr => ∃ k : Nat, k ≤ n1 ∧ i = .int .i64 k ∧ Hid (xs.take k = ys.take k) ∧ Below w.heap.size w wr) (fun i _ => n1 - (intOf i).toNat)
    case atStart => exact ⟨0, Nat.zero_le _, rfl, rfl, Below.refl _ _⟩
    case round =>
      obtain ⟨k, hk, rfl, htk, hbw⟩ := hrel
      by_cases hlt : k < n1
      · obtain ⟨b1, o1, x, rfl, hx, x0⟩ := (H1.out.below hbw).at_ hlt
        obtain ⟨b2, o2, y, rfl, hy, y0⟩ := (H2.out.below hbw).at_ hlt
        have HX := Lib.hid hx
        have HY := Lib.hid hy
        have i0 : (0 : Int) ≤ (k : Int) := by omega
        have i1 : (k : Int) < (n1 : Int) := by omega
        clear hx hy
        go_upto_region 6 with (fail)
        go_quiet (fail)
        have HB := Lib.hid (hbw.trans ((below_drewN (Below.refl wr.heap.size wr) nq).mono hbw.size))
        generalize wr.drewN nq = w6 at HB ⊢
        clear x0 y0 i0 i1
        by_cases hxy : x = y
        · have b0 : (x != y) = false := bne_not hxy
          have HT := Lib.hid (take_eq_snoc htk.out HX.out (by rw [HY.out, hxy]))
          clear hxy
          go_wp2
          go_roundw
          case rel => exact ⟨k + 1, by omega, by go_num, HT.out, HB.out⟩
          case measure => simp [intOf]; omega
        · have b0 : (x != y) = true := bne_of hxy
          have HT := Lib.hid (show decide (xs = ys) = false from decide_eq_false (take_ne HX.out HY.out hxy))
          clear hxy
          go_wp2
          go_ret
          exact ⟨retBool HT.out.symm, HB.out⟩
      · have hkn : k = n1 := by omega
        subst hkn
        have HT := Lib.hid (show decide (xs = ys) = true from decide_eq_true (by
          have := htk.out
          rw [List.take_of_length_le (by rw [L1.out]; exact Nat.le_refl _), List.take_of_length_le (by rw [L2.out]; exact Nat.le_refl _)] at this
          exact this))
        go_wp2
        go_ret
        exact ⟨retBool HT.out.symm, hbw⟩
  · have HT := Lib.hid (show decide (xs = ys) = false from decide_eq_false (fun e => hl (by rw [← l1, ← l2, e])))
    have b0 : ((n1 : Int) != (n2 : Int)) = true := bne_of hl
    clear hl l1 l2
    go_enter Tryz.func13, Tryz.ntmps13
    go_wp2
    go_ret
    exact ⟨retBool HT.out.symm, Below.refl _ _⟩
end Go.Proofs.YtjklhiifjnmedaaGreatDoor
