/- Acts in memory; few, do, play: a manager after acts. -/
import Derived.Test.YtkabfjknpjhonaaLkReqB
import Derived.Test.YtkabfjknpjhonaaLkNew
import Derived.Test.YtkabfjknpjhonaaLkAll
namespace Go.Proofs.Ytkabfjknpjhonaa
open Go.RowKit P16 P46
attribute [local go_sem] ByteArray.mk_append_mk ByteArray.extract_mk mk_index

structure ActL where
  (kind : Int) (l : Lock)
def ac (a : ActL) : List Value := .int .i64 a.kind :: lc a.l
def acs (xs : List ActL) : List Value := xs.flatMap ac
def av (a : ActL) : Value := .agg #[.int .i64 a.kind, .int .i64 a.l.unit, .int .i64 a.l.id, .string ⟨a.l.r.low.toArray⟩, .string ⟨a.l.r.high.toArray⟩, .bool a.l.r.e, .bool a.l.x]
theorem acs_length (xs : List ActL) : (acs xs).length = xs.length * 7 := by
  induction xs with
  | nil => rfl
  | cons a xs ih =>
    show (ac a ++ acs xs).length = _
    rw [List.length_append, ih]
    simp [ac, lc]
    omega
theorem acs_get : ∀ {xs : List ActL} {k : Nat} {a : ActL}, xs[k]? = some a → ∀ j, j < 7 → (acs xs)[k * 7 + j]? = (ac a)[j]?
  | [], k, a, h, j, hj => by simp at h
  | y :: xs, 0, a, h, j, hj => by
    simp only [List.getElem?_cons_zero, Option.some.injEq] at h
    subst h
    show (ac y ++ acs xs)[0 * 7 + j]? = _
    rw [Nat.zero_mul, Nat.zero_add, List.getElem?_append_left (by simpa [ac, lc] using hj)]
  | y :: xs, k + 1, a, h, j, hj => by
    show (ac y ++ acs xs)[(k + 1) * 7 + j]? = _
    rw [List.getElem?_append_right (by simp [ac, lc]; omega)]
    have := acs_get (xs := xs) (k := k) (a := a) (by simpa using h) j hj
    rw [← this]
    congr 1
    simp [ac, lc]
    omega
/-- The slice reads xs the acts. -/
def ActsAt (w : World) (A : Option Addr) (n : Nat) (xs : List ActL) : Prop := CellsAt w A n 7 (acs xs)
section
variable {w w' : World} {A : Option Addr} {n : Nat} {xs : List ActL}
theorem ActsAt.len (h : ActsAt w A n xs) : xs.length = n := by
  have := h.1
  rw [acs_length] at this
  omega
theorem ActsAt.below (h : ActsAt w A n xs) (hb : Below w.heap.size w w') : ActsAt w' A n xs := CellsAt.below h hb
theorem ActsAt.at_ (h : ActsAt w A n xs) {k : Nat} (hk : k < n) : ∃ b off a, A = some ⟨b, off, none⟩ ∧ xs[k]? = some a := by
  have hl := h.len
  have hk' : k < xs.length := by omega
  obtain ⟨b, off, h1, -⟩ := h.2 (k * 7 + 0) _ (acs_get (List.getElem?_eq_getElem hk') 0 (by omega))
  exact ⟨b, off, xs[k], h1, List.getElem?_eq_getElem hk'⟩
end
theorem ActsAt.row {w : World} {b off n : Nat} {xs : List ActL} (h : ActsAt w (some ⟨b, off, none⟩) n xs) {k : Nat} {a : ActL} (hl : xs[k]? = some a) :
    ∀ j u, (#[.int .i64 a.kind, .int .i64 a.l.unit, .int .i64 a.l.id, .string ⟨a.l.r.low.toArray⟩, .string ⟨a.l.r.high.toArray⟩, .bool a.l.r.e, .bool a.l.x] : Array Value)[j]? = some u → w.cell? ((⟨b, off + k * 7, none⟩ : Addr).add j) = some u := by
  intro j u hj
  have hj7 : j < 7 := (Array.getElem?_eq_some_iff.1 hj).1
  have hu : (acs xs)[k * 7 + j]? = some u := by
    rw [acs_get hl j hj7]
    simpa [ac, lc] using hj
  obtain ⟨b', off', he, h1⟩ := h.2 _ u hu
  injection he with he
  injection he with he1 he2
  subst he1 he2
  rw [Addr.add_lit]
  show w.cell? ⟨b, off + k * 7 + j, none⟩ = some u
  rw [Nat.add_assoc]
  exact h1
/-- An act's cells in a box. -/
def aa (a : ActL) : Array Value := #[.int .i64 a.kind, .int .i64 a.l.unit, .int .i64 a.l.id, .string ⟨a.l.r.low.toArray⟩, .string ⟨a.l.r.high.toArray⟩, .bool a.l.r.e, .bool a.l.x]
theorem acells {w : World} {p : Nat} {t : TypeId} {a : ActL} (h : Blk w p t (aa a)) :
    w.cell? ⟨p, 0, none⟩ = some (.int .i64 a.kind) ∧ w.cell? ⟨p, 1, none⟩ = some (.int .i64 a.l.unit) ∧ w.cell? ⟨p, 2, none⟩ = some (.int .i64 a.l.id) ∧ w.cell? ⟨p, 3, none⟩ = some (.string ⟨a.l.r.low.toArray⟩) ∧ w.cell? ⟨p, 4, none⟩ = some (.string ⟨a.l.r.high.toArray⟩) ∧ w.cell? ⟨p, 5, none⟩ = some (.bool a.l.r.e) ∧ w.cell? ⟨p, 6, none⟩ = some (.bool a.l.x) :=
  ⟨h.cell 0, h.cell 1, h.cell 2, h.cell 3, h.cell 4, h.cell 5, h.cell 6⟩
def shortA (a : ActL) : Bool := decide ((a.l.r.low.length : Int) ≤ 40) && decide ((a.l.r.high.length : Int) ≤ 40)
def fewA (xs : List ActL) (most : Int) : Bool := decide ((xs.length : Int) ≤ most) && xs.all shortA
set_option maxRecDepth 100000 in
set_option maxHeartbeats 1000000 in
theorem lkFew (most : Int) (A : Option Addr) (n c : Nat) (xs : List ActL) (w : World) (h : ActsAt w A n xs) (hn : n ≤ 9223372036854775807) :
    Calls Try.prog 10 #[.slice A n c, .int .i64 most] w fun e w' => e = .returned (.bool (fewA xs most)) ∧ Below w.heap.size w w' := by
  have HS := Lib.hid h
  have hl := h.len
  clear h
  have hlenA : (Try.prog.info? 34).map (·.size) = some 7 := by kernel_rfl
  by_cases hm : most < (n : Int)
  · have HO := Lib.hid (show fewA xs most = false from by unfold fewA; rw [hl, decide_eq_false (by omega)]; rfl)
    go_enter Try.func10, Try.ntmps10
    go_wp2
    go_ret
    exact ⟨retBool HO.out.symm, Below.refl _ _⟩
  · have HFM := Lib.hid (show fewA xs most = xs.all shortA from by unfold fewA; rw [hl, decide_eq_true (by omega)]; rfl)
    have HLL := Lib.hid hl
    clear hl
    go_enter Try.func10, Try.ntmps10
    go_wp2
    go_loopw [13] (fun i wr => ∃ k : Nat, k ≤ n ∧ i = .int .i64 k ∧ Hid (∀ (j : Nat) (a : ActL), j < k → xs[j]? = some a → shortA a = true) ∧ Below w.heap.size w wr) (fun i _ => n - (intOf i).toNat)
    case atStart => exact ⟨0, Nat.zero_le _, rfl, fun j a hj => absurd hj (by omega), Below.refl _ _⟩
    case round =>
      obtain ⟨k, hk, rfl, hall, hbw⟩ := hrel
      have hsz := hbw.size
      by_cases hlt : k < n
      · have hs := HS.out.below hbw
        obtain ⟨b, off, a, rfl, ha⟩ := hs.at_ hlt
        have HR := Lib.hid (hs.row ha)
        have HA := Lib.hid ha
        have HSA := Lib.hid (show shortA a = (decide ((a.l.r.low.length : Int) ≤ 40) && decide ((a.l.r.high.length : Int) ≤ 40)) from rfl)
        clear hs ha
        go_upto_region 6 with (refine wpList_load_cells rfl 34 (.tmp 15) rfl ⟨b, off + k * 7, none⟩ rfl _ _ HR.out Try.underlying34 rfl hlenA ?_)
        obtain ⟨w4, g4, e1, e2, hb4, h4⟩ := boxes1 wr 34 (aa a)
        unfold aa at e1
        rw [e1, e2]
        have HB4 := Lib.hid (hbw.trans (hb4.mono hsz))
        obtain ⟨a0, a1, a2, a3, a4, a5, a6⟩ := acells h4
        clear e1 e2 hb4 h4
        by_cases hs1 : (a.l.r.low.length : Int) ≤ 40
        · by_cases hs2 : (a.l.r.high.length : Int) ≤ 40
          · have HT := Lib.hid (show shortA a = true from by rw [HSA.out, decide_eq_true hs1, decide_eq_true hs2]; rfl)
            go_wp2
            go_roundw
            case rel =>
              refine ⟨k + 1, by omega, by go_num, ?_, HB4.out⟩
              intro j a' hj ha'
              by_cases hjk : j = k
              · subst hjk
                have := HA.out.symm.trans ha'
                simp only [Option.some.injEq] at this
                subst this
                exact HT.out
              · exact hall.out j a' (by omega) ha'
            case measure => simp [intOf]; omega
          · have HT := Lib.hid (show fewA xs most = false from by
              rw [HFM.out, List.all_eq_false]
              exact ⟨a, List.mem_of_getElem? HA.out, by rw [HSA.out, decide_eq_true hs1, decide_eq_false hs2]; simp⟩)
            go_wp2
            go_ret
            exact ⟨retBool HT.out.symm, HB4.out⟩
        · have HT := Lib.hid (show fewA xs most = false from by
            rw [HFM.out, List.all_eq_false]
            exact ⟨a, List.mem_of_getElem? HA.out, by rw [HSA.out, decide_eq_false hs1]; simp⟩)
          go_wp2
          go_ret
          exact ⟨retBool HT.out.symm, HB4.out⟩
      · have HT := Lib.hid (show fewA xs most = true from by
          rw [HFM.out, List.all_eq_true]
          intro a ha
          obtain ⟨j, hj⟩ := List.mem_iff_getElem?.1 ha
          exact hall.out j a (by have := HLL.out; have := (List.getElem?_eq_some_iff.1 hj).1; omega) hj)
        go_wp2
        go_ret
        exact ⟨retBool HT.out.symm, hbw⟩
end Go.Proofs.Ytkabfjknpjhonaa
