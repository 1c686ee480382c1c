/- Acts on a facility in memory; few. Arguments opened: a lock, a slice of locks, a slice of acts. -/
import Derived.Test.YtjklhiifjnmedaaCmA
import Derived.Test.YtjklhiifjnmedaaLkAll
import Derived.Test.YtjklhiifjnmedaaLkAsk
import Derived.Test.YtjklhiifjnmedaaAgg
import Derived.Test.YtjklhiifjnmedaaOpen
import Derived.Test.YtjklhiifjnmedaaLkWaits
import Derived.Test.YtjklhiifjnmedaaLkEq
import Derived.Deep.Slices
namespace Go.Proofs.Ytjklhiifjnmedaa
open Go.RowKit P16 P46
attribute [local go_sem] ByteArray.mk_append_mk ByteArray.extract_mk mk_index

abbrev ActL := P52.ActC
def ac (a : ActL) : List Value := .int .i64 a.kind :: .int .i64 a.a :: .int .i64 a.b :: lc a.l
def acs (xs : List ActL) : List Value := xs.flatMap ac
def av (a : ActL) : Value := .agg #[.int .i64 a.kind, .int .i64 a.a, .int .i64 a.b, .int .i64 a.l.unit, .int .i64 a.l.id, .string ⟨a.l.r.low.toArray⟩, .string ⟨a.l.r.high.toArray⟩, .bool a.l.r.e, .bool a.l.x]
theorem acs_length (xs : List ActL) : (acs xs).length = xs.length * 9 := by
  induction xs with
  | nil => rfl
  | cons a xs ih =>
    show (ac a ++ acs xs).length = _
    rw [List.length_append, ih]
    simp [ac, lc]
    omega
theorem acs_get : ∀ {xs : List ActL} {k : Nat} {a : ActL}, xs[k]? = some a → ∀ j, j < 9 → (acs xs)[k * 9 + j]? = (ac a)[j]?
  | [], k, a, h, j, hj => by simp at h
  | y :: xs, 0, a, h, j, hj => by
    simp only [List.getElem?_cons_zero, Option.some.injEq] at h
    subst h
    show (ac y ++ acs xs)[0 * 9 + j]? = _
    rw [Nat.zero_mul, Nat.zero_add, List.getElem?_append_left (by simpa [ac, lc] using hj)]
  | y :: xs, k + 1, a, h, j, hj => by
    show (ac y ++ acs xs)[(k + 1) * 9 + j]? = _
    rw [List.getElem?_append_right (by simp [ac, lc]; omega)]
    have := acs_get (xs := xs) (k := k) (a := a) (by simpa using h) j hj
    rw [← this]
    congr 1
    simp [ac, lc]
    omega
/-- The slice reads xs the acts. -/
def ActsAt (w : World) (A : Option Addr) (n : Nat) (xs : List ActL) : Prop := CellsAt w A n 9 (acs xs)
section
variable {w w' : World} {A : Option Addr} {n : Nat} {xs : List ActL}
theorem ActsAt.len (h : ActsAt w A n xs) : xs.length = n := by
  have := h.1
  rw [acs_length] at this
  omega
theorem ActsAt.below (h : ActsAt w A n xs) (hb : Below w.heap.size w w') : ActsAt w' A n xs := CellsAt.below h hb
theorem ActsAt.at_ (h : ActsAt w A n xs) {k : Nat} (hk : k < n) : ∃ b off a, A = some ⟨b, off, none⟩ ∧ xs[k]? = some a := by
  have hl := h.len
  have hk' : k < xs.length := by omega
  obtain ⟨b, off, h1, -⟩ := h.2 (k * 9 + 0) _ (acs_get (List.getElem?_eq_getElem hk') 0 (by omega))
  exact ⟨b, off, xs[k], h1, List.getElem?_eq_getElem hk'⟩
end
theorem ActsAt.row {w : World} {b off n : Nat} {xs : List ActL} (h : ActsAt w (some ⟨b, off, none⟩) n xs) {k : Nat} {a : ActL} (hl : xs[k]? = some a) :
    ∀ j u, (#[.int .i64 a.kind, .int .i64 a.a, .int .i64 a.b, .int .i64 a.l.unit, .int .i64 a.l.id, .string ⟨a.l.r.low.toArray⟩, .string ⟨a.l.r.high.toArray⟩, .bool a.l.r.e, .bool a.l.x] : Array Value)[j]? = some u → w.cell? ((⟨b, off + k * 9, none⟩ : Addr).add j) = some u := by
  intro j u hj
  have hj9 : j < 9 := (Array.getElem?_eq_some_iff.1 hj).1
  have hu : (acs xs)[k * 9 + j]? = some u := by
    rw [acs_get hl j hj9]
    simpa [ac, lc] using hj
  obtain ⟨b', off', he, h1⟩ := h.2 _ u hu
  injection he with he
  injection he with he1 he2
  subst he1 he2
  rw [Addr.add_lit]
  show w.cell? ⟨b, off + k * 9 + j, none⟩ = some u
  rw [Nat.add_assoc]
  exact h1
/-- An act's cells in a box. -/
def aa (a : ActL) : Array Value := #[.int .i64 a.kind, .int .i64 a.a, .int .i64 a.b, .int .i64 a.l.unit, .int .i64 a.l.id, .string ⟨a.l.r.low.toArray⟩, .string ⟨a.l.r.high.toArray⟩, .bool a.l.r.e, .bool a.l.x]
theorem acells {w : World} {p : Nat} {t : TypeId} {a : ActL} (h : Blk w p t (aa a)) :
    w.cell? ⟨p, 0, none⟩ = some (.int .i64 a.kind) ∧ w.cell? ⟨p, 1, none⟩ = some (.int .i64 a.a) ∧ w.cell? ⟨p, 2, none⟩ = some (.int .i64 a.b) ∧ w.cell? ⟨p, 3, none⟩ = some (.int .i64 a.l.unit) ∧ w.cell? ⟨p, 4, none⟩ = some (.int .i64 a.l.id) ∧ w.cell? ⟨p, 5, none⟩ = some (.string ⟨a.l.r.low.toArray⟩) ∧ w.cell? ⟨p, 6, none⟩ = some (.string ⟨a.l.r.high.toArray⟩) ∧ w.cell? ⟨p, 7, none⟩ = some (.bool a.l.r.e) ∧ w.cell? ⟨p, 8, none⟩ = some (.bool a.l.x) :=
  ⟨h.cell 0, h.cell 1, h.cell 2, h.cell 3, h.cell 4, h.cell 5, h.cell 6, h.cell 7, h.cell 8⟩
def shortA (a : ActL) : Bool := decide ((a.l.r.low.length : Int) ≤ 40) && decide ((a.l.r.high.length : Int) ≤ 40)
def fewA (xs : List ActL) (most : Int) : Bool := decide ((xs.length : Int) ≤ most) && xs.all shortA
set_option maxRecDepth 100000 in
set_option maxHeartbeats 1000000 in
theorem cfFew (most : Int) (A : Option Addr) (n c : Nat) (xs : List ActL) (w : World) (h : ActsAt w A n xs) (hn : n ≤ 9223372036854775807) :
    Calls Try.prog 9 #[.slice A n c, .int .i64 most] w fun e w' => e = .returned (.bool (fewA xs most)) ∧ Below w.heap.size w w' := by
  have HS := Lib.hid h
  have hl := h.len
  clear h
  have hlenA : (Try.prog.info? 40).map (·.size) = some 9 := by kernel_rfl
  by_cases hm : most < (n : Int)
  · have HO := Lib.hid (show fewA xs most = false from by unfold fewA; rw [hl, decide_eq_false (by omega)]; rfl)
    go_enter Try.func9, Try.ntmps9
    go_wp2
    go_ret
    exact ⟨retBool HO.out.symm, Below.refl _ _⟩
  · have HFM := Lib.hid (show fewA xs most = xs.all shortA from by unfold fewA; rw [hl, decide_eq_true (by omega)]; rfl)
    have HLL := Lib.hid hl
    clear hl
    go_enter Try.func9, Try.ntmps9
    go_wp2
    go_loopw [13] (fun i wr => ∃ k : Nat, k ≤ n ∧ i = .int .i64 k ∧ Hid (∀ (j : Nat) (a : ActL), j < k → xs[j]? = some a → shortA a = true) ∧ Below w.heap.size w wr) (fun i _ => n - (intOf i).toNat)
    case atStart => exact ⟨0, Nat.zero_le _, rfl, fun j a hj => absurd hj (by omega), Below.refl _ _⟩
    case round =>
      obtain ⟨k, hk, rfl, hall, hbw⟩ := hrel
      have hsz := hbw.size
      by_cases hlt : k < n
      · have hs := HS.out.below hbw
        obtain ⟨b, off, a, rfl, ha⟩ := hs.at_ hlt
        have HR := Lib.hid (hs.row ha)
        have HA := Lib.hid ha
        have HSA := Lib.hid (show shortA a = (decide ((a.l.r.low.length : Int) ≤ 40) && decide ((a.l.r.high.length : Int) ≤ 40)) from rfl)
        clear hs ha
        go_upto_region 6 with (refine wpList_load_cells rfl 40 (.tmp 15) rfl ⟨b, off + k * 9, none⟩ rfl _ _ HR.out Try.underlying40 rfl hlenA ?_)
        obtain ⟨w4, g4, e1, e2, hb4, h4⟩ := boxes1 wr 40 (aa a)
        unfold aa at e1
        rw [e1, e2]
        have HB4 := Lib.hid (hbw.trans (hb4.mono hsz))
        obtain ⟨a0, a1, a2, a3, a4, a5, a6, a7, a8⟩ := acells h4
        clear e1 e2 hb4 h4
        by_cases hs1 : (a.l.r.low.length : Int) ≤ 40
        · by_cases hs2 : (a.l.r.high.length : Int) ≤ 40
          · have HT := Lib.hid (show shortA a = true from by rw [HSA.out, decide_eq_true hs1, decide_eq_true hs2]; rfl)
            go_wp2
            go_roundw
            case rel =>
              refine ⟨k + 1, by omega, by go_num, ?_, HB4.out⟩
              intro j a' hj ha'
              by_cases hjk : j = k
              · subst hjk
                have := HA.out.symm.trans ha'
                simp only [Option.some.injEq] at this
                subst this
                exact HT.out
              · exact hall.out j a' (by omega) ha'
            case measure => simp [intOf]; omega
          · have HT := Lib.hid (show fewA xs most = false from by
              rw [HFM.out, List.all_eq_false]
              exact ⟨a, List.mem_of_getElem? HA.out, by rw [HSA.out, decide_eq_true hs1, decide_eq_false hs2]; simp⟩)
            go_wp2
            go_ret
            exact ⟨retBool HT.out.symm, HB4.out⟩
        · have HT := Lib.hid (show fewA xs most = false from by
            rw [HFM.out, List.all_eq_false]
            exact ⟨a, List.mem_of_getElem? HA.out, by rw [HSA.out, decide_eq_false hs1]; simp⟩)
          go_wp2
          go_ret
          exact ⟨retBool HT.out.symm, HB4.out⟩
      · have HT := Lib.hid (show fewA xs most = true from by
          rw [HFM.out, List.all_eq_true]
          intro a ha
          obtain ⟨j, hj⟩ := List.mem_iff_getElem?.1 ha
          exact hall.out j a (by have := HLL.out; have := (List.getElem?_eq_some_iff.1 hj).1; omega) hj)
        go_wp2
        go_ret
        exact ⟨retBool HT.out.symm, hbw⟩
end Go.Proofs.Ytjklhiifjnmedaa
namespace Go.Proofs.Ytjklhiifjnmedaa
open Go.ChangeShapes Go.WideShapes Go.ChangeAt Go.RowKit Go.Deep P16 P46

theorem shapeR : ((Try.prog.fieldsOf 23).toList.map fun f => (f.type, f.offset, Try.prog.cellsOf f.type)) = [(9, 0, 1), (9, 1, 1), (4, 2, 1)] := by kernel_rfl
theorem shapeL : ((Try.prog.fieldsOf 25).toList.map fun f => (f.type, f.offset, Try.prog.cellsOf f.type)) = [(3, 0, 1), (3, 1, 1), (23, 2, 3), (4, 5, 1)] := by kernel_rfl
theorem shapeA : ((Try.prog.fieldsOf 40).toList.map fun f => (f.type, f.offset, Try.prog.cellsOf f.type)) = [(3, 0, 1), (3, 1, 1), (3, 2, 1), (25, 3, 6)] := by kernel_rfl
/-- The lock's unit is a number of the kind. -/
def UnitOk (l : Lock) : Prop := (Lit.int .i64 l.unit).wf = true
section
variable {H : Type} {enc : TypeId × Value → H} {w : World} {base : Nat} {spare : Nat → Bool} {held : Bool}
theorem trod_lock {fuel : Nat} {cs : List Value} {x : DataW H × List MemPlace} (h : DataW.trod enc Try.prog w base spare held fuel 25 cs = some x) : ∃ l : Lock, cs = lc l ∧ UnitOk l := by
  obtain ⟨hl, hf⟩ := trod_parts (by kernel_rfl) shapeL h
  rw [show Try.prog.cellsOf 25 = 6 from by kernel_rfl] at hl
  match cs, hl with
  | [c0, c1, c2, c3, c4, c5], _ =>
    obtain ⟨_, _, h0⟩ := hf 0 _ rfl
    obtain ⟨x0, rfl, w0⟩ := trod_int1 Try.underlying3 h0
    obtain ⟨_, _, h1⟩ := hf 1 _ rfl
    obtain ⟨x1, rfl, w1⟩ := trod_int1 Try.underlying3 h1
    obtain ⟨_, _, h2⟩ := hf 2 _ rfl
    obtain ⟨_, hg⟩ := trod_parts (by kernel_rfl) shapeR h2
    obtain ⟨_, _, g0⟩ := hg 0 _ rfl
    obtain ⟨y0, rfl, _⟩ := trod_string1 Try.underlying9 g0
    obtain ⟨_, _, g1⟩ := hg 1 _ rfl
    obtain ⟨y1, rfl, _⟩ := trod_string1 Try.underlying9 g1
    obtain ⟨_, _, g2⟩ := hg 2 _ rfl
    obtain ⟨y2, rfl⟩ := trod_bool1 Try.underlying4 g2
    obtain ⟨_, _, h3⟩ := hf 3 _ rfl
    obtain ⟨x3, rfl⟩ := trod_bool1 Try.underlying4 h3
    exact ⟨⟨x0, x1, ⟨y0, y1, y2⟩, x3⟩, rfl, w0⟩
/-- The act's numbers are of the kind. -/
def ActOk (a : ActL) : Prop := UnitOk a.l ∧ (Lit.int .i64 a.a).wf = true ∧ (Lit.int .i64 a.b).wf = true
theorem trod_act {fuel : Nat} {cs : List Value} {x : DataW H × List MemPlace} (h : DataW.trod enc Try.prog w base spare held fuel 40 cs = some x) : ∃ a : ActL, cs = ac a ∧ ActOk a := by
  obtain ⟨hl, hf⟩ := trod_parts (by kernel_rfl) shapeA h
  rw [show Try.prog.cellsOf 40 = 9 from by kernel_rfl] at hl
  match cs, hl with
  | c0 :: c1 :: c2 :: c3 :: c4 :: c5 :: c6 :: c7 :: c8 :: [], _ =>
    obtain ⟨_, _, h0⟩ := hf 0 _ rfl
    obtain ⟨x0, rfl, w0⟩ := trod_int1 Try.underlying3 h0
    obtain ⟨_, _, h1⟩ := hf 1 _ rfl
    obtain ⟨x1, rfl, w1⟩ := trod_int1 Try.underlying3 h1
    obtain ⟨_, _, h2⟩ := hf 2 _ rfl
    obtain ⟨x2, rfl, w2⟩ := trod_int1 Try.underlying3 h2
    obtain ⟨_, _, h3⟩ := hf 3 _ rfl
    obtain ⟨l, hl, hu⟩ := trod_lock h3
    exact ⟨⟨x0, x1, x2, l⟩, by show _ = Value.int .i64 x0 :: .int .i64 x1 :: .int .i64 x2 :: lc l; rw [← hl]; rfl, hu, w1, w2⟩
set_option maxRecDepth 100000 in
theorem open_lock {r : Reach} {b0 : Nat} {v : Value} {d : DataW H} {p : List MemPlace} (hv : Value.okWide Try.prog w r b0 25 v) (h : DataW.Trod enc Try.prog w base spare held 25 v d p) : ∃ l : Lock, v = lv l := by
  obtain ⟨cs, rfl, _⟩ := okWide_struct underL hv
  obtain ⟨fuel, hf⟩ := h
  obtain ⟨l, hq, _⟩ := trod_lock hf
  refine ⟨l, ?_⟩
  have : cs.toList = _ := hq
  rw [← Array.toArray_toList (xs := cs), this]
  rfl
theorem open_locks_at {t : TypeId} {A : Option Addr} {n c : Nat} {d : DataW H} {p : List MemPlace} (ht : Try.prog.underlying t = some (.slice 25)) (h : DataW.Trod enc Try.prog w base spare held t (.slice A n c) d p) :
    ∃ ls : List Lock, LocksAt w A n ls ∧ n ≤ maxLen ∧ ∀ l ∈ ls, UnitOk l := by
  obtain ⟨fuel, hf⟩ := h
  rcases open_slice ht hf with ⟨hcs, _⟩ | ⟨a, len, cap, m, k, D, Pl, hcs, _, hl, hm, hmm, _, hx⟩
  · simp [Value.cells] at hcs
    obtain ⟨rfl, rfl, rfl⟩ := hcs
    exact ⟨[], LocksAt.nil, Nat.zero_le _, by simp⟩
  · simp [Value.cells] at hcs
    obtain ⟨rfl, rfl, rfl⟩ := hcs
    have hnm : n ≤ m := by rw [hmm]; split <;> omega
    rw [show Try.prog.cellsOf 25 = 6 from by kernel_rfl] at hx
    have each : ∀ i, i < n → ∃ l : Lock, UnitOk l ∧ ∀ j, j < 6 → ∃ u, (lc l)[j]? = some u ∧ w.cell? (a.add (i * 6 + j)) = some u := by
      intro i hi
      obtain ⟨cs', h1, h2⟩ := hx i (by omega)
      obtain ⟨_, hlen, hcell⟩ := World.cells?_some h1
      obtain ⟨l, rfl, hu⟩ := trod_lock h2
      refine ⟨l, hu, fun j hj => ?_⟩
      have := hcell j hj
      rw [add_add] at this
      exact ⟨(lc l)[j]'(by simpa [lc] using hj), List.getElem?_eq_getElem _, by rw [this]; simp [lc, hj]⟩
    haveI : Inhabited Lock := ⟨zeroL⟩
    obtain ⟨f, hfn⟩ := choose_lt each
    refine ⟨(List.range n).map f, ⟨by rw [lcs_length]; simp, fun j u hj => ?_⟩, by omega, fun l hl => ?_⟩
    · have hjl : j < n * 6 := by
        have := (List.getElem?_eq_some_iff.1 hj).1
        rw [lcs_length] at this
        simpa using this
      have hq : j / 6 < n := by omega
      have hg : ((List.range n).map f)[j / 6]? = some (f (j / 6)) := by simp [hq]
      have hs := lcs_get hg (j % 6) (by omega)
      rw [show j / 6 * 6 + j % 6 = j by omega, hj] at hs
      obtain ⟨u', hu', hc⟩ := (hfn (j / 6) hq).2 (j % 6) (by omega)
      rw [show j / 6 * 6 + j % 6 = j by omega] at hc
      obtain rfl : u = u' := by rw [hu'] at hs; exact Option.some.inj hs
      obtain ⟨b, off, spot⟩ := a
      have hspot : spot = none := by
        obtain ⟨_, _, h0⟩ := (hfn 0 (by omega)).2 0 (by omega)
        simpa [Addr.add] using World.cell?_spot h0
      subst hspot
      refine ⟨b, off, rfl, ?_⟩
      rw [Addr.add_lit] at hc
      exact hc
    · obtain ⟨i, hi, rfl⟩ := List.mem_map.1 hl
      exact (hfn i (by simpa using hi)).1
theorem open_acts_at {t : TypeId} {A : Option Addr} {n c : Nat} {d : DataW H} {p : List MemPlace} (ht : Try.prog.underlying t = some (.slice 40)) (h : DataW.Trod enc Try.prog w base spare held t (.slice A n c) d p) :
    ∃ xs : List ActL, ActsAt w A n xs ∧ n ≤ maxLen ∧ ∀ a ∈ xs, ActOk a := by
  obtain ⟨fuel, hf⟩ := h
  rcases open_slice ht hf with ⟨hcs, _⟩ | ⟨a, len, cap, m, k, D, Pl, hcs, _, hl, hm, hmm, _, hx⟩
  · simp [Value.cells] at hcs
    obtain ⟨rfl, rfl, rfl⟩ := hcs
    exact ⟨[], ⟨rfl, fun j u h => by simp [acs] at h⟩, Nat.zero_le _, by simp⟩
  · simp [Value.cells] at hcs
    obtain ⟨rfl, rfl, rfl⟩ := hcs
    have hnm : n ≤ m := by rw [hmm]; split <;> omega
    rw [show Try.prog.cellsOf 40 = 9 from by kernel_rfl] at hx
    have each : ∀ i, i < n → ∃ l : ActL, ActOk l ∧ ∀ j, j < 9 → ∃ u, (ac l)[j]? = some u ∧ w.cell? (a.add (i * 9 + j)) = some u := by
      intro i hi
      obtain ⟨cs', h1, h2⟩ := hx i (by omega)
      obtain ⟨_, hlen, hcell⟩ := World.cells?_some h1
      obtain ⟨l, rfl, hu⟩ := trod_act h2
      refine ⟨l, hu, fun j hj => ?_⟩
      have := hcell j hj
      rw [add_add] at this
      exact ⟨(ac l)[j]'(by simpa [ac, lc] using hj), List.getElem?_eq_getElem _, by rw [this]; simp [ac, lc, hj]⟩
    haveI : Inhabited ActL := ⟨⟨0, 0, 0, zeroL⟩⟩
    obtain ⟨f, hfn⟩ := choose_lt each
    refine ⟨(List.range n).map f, ⟨by rw [acs_length]; simp, fun j u hj => ?_⟩, by omega, fun l hl => ?_⟩
    · have hjl : j < n * 9 := by
        have := (List.getElem?_eq_some_iff.1 hj).1
        rw [acs_length] at this
        simpa using this
      have hq : j / 9 < n := by omega
      have hg : ((List.range n).map f)[j / 9]? = some (f (j / 9)) := by simp [hq]
      have hs := acs_get hg (j % 9) (by omega)
      rw [show j / 9 * 9 + j % 9 = j by omega, hj] at hs
      obtain ⟨u', hu', hc⟩ := (hfn (j / 9) hq).2 (j % 9) (by omega)
      rw [show j / 9 * 9 + j % 9 = j by omega] at hc
      obtain rfl : u = u' := by rw [hu'] at hs; exact Option.some.inj hs
      obtain ⟨b, off, spot⟩ := a
      have hspot : spot = none := by
        obtain ⟨_, _, h0⟩ := (hfn 0 (by omega)).2 0 (by omega)
        simpa [Addr.add] using World.cell?_spot h0
      subst hspot
      refine ⟨b, off, rfl, ?_⟩
      rw [Addr.add_lit] at hc
      exact hc
    · obtain ⟨i, hi, rfl⟩ := List.mem_map.1 hl
      exact (hfn i (by simpa using hi)).1
end
end Go.Proofs.Ytjklhiifjnmedaa
