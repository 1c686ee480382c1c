/- Acts on a facility in memory; few. Arguments opened: a lock, a slice of locks, a slice of acts. exports, Rebuild: a facility is given the locks that systems know. Rebuild: a facility that has lost its locks is given those that systems know. do: an act on a facility. -/
import Derived.Test.YtjklhiifjnmedaaGreatCmA
import Derived.Test.YtjklhiifjnmedaaGreatLkAll
import Derived.Test.YtjklhiifjnmedaaGreatLkAsk
import Derived.Test.YtjklhiifjnmedaaGreatAgg
import Derived.Test.YtjklhiifjnmedaaGreatOpen
import Derived.Test.YtjklhiifjnmedaaGreatLkWaits
import Derived.Test.YtjklhiifjnmedaaGreatLkEq
import Derived.Deep.Slices
import Derived.Test.YtjklhiifjnmedaaGreatCmE
import Derived.Test.YtjklhiifjnmedaaGreatLkWf
namespace Go.Proofs.YtjklhiifjnmedaaGreat
open Go.RowKit P16 P46
attribute [local go_sem] ByteArray.mk_append_mk ByteArray.extract_mk mk_index

abbrev ActL := P52.ActC
def ac (a : ActL) : List Value := .int .i64 a.kind :: .int .i64 a.a :: .int .i64 a.b :: lc a.l
def acs (xs : List ActL) : List Value := xs.flatMap ac
def av (a : ActL) : Value := .agg #[.int .i64 a.kind, .int .i64 a.a, .int .i64 a.b, .int .i64 a.l.unit, .int .i64 a.l.id, .string ⟨a.l.r.low.toArray⟩, .string ⟨a.l.r.high.toArray⟩, .bool a.l.r.e, .bool a.l.x]
theorem acs_length (xs : List ActL) : (acs xs).length = xs.length * 9 := by
  induction xs with
  | nil => rfl
  | cons a xs ih =>
    show (ac a ++ acs xs).length = _
    rw [List.length_append, ih]
    simp [ac, lc]
    omega
theorem acs_get : ∀ {xs : List ActL} {k : Nat} {a : ActL}, xs[k]? = some a → ∀ j, j < 9 → (acs xs)[k * 9 + j]? = (ac a)[j]?
  | [], k, a, h, j, hj => by simp at h
  | y :: xs, 0, a, h, j, hj => by
    simp only [List.getElem?_cons_zero, Option.some.injEq] at h
    subst h
    show (ac y ++ acs xs)[0 * 9 + j]? = _
    rw [Nat.zero_mul, Nat.zero_add, List.getElem?_append_left (by simpa [ac, lc] using hj)]
  | y :: xs, k + 1, a, h, j, hj => by
    show (ac y ++ acs xs)[(k + 1) * 9 + j]? = _
    rw [List.getElem?_append_right (by simp [ac, lc]; omega)]
    have := acs_get (xs := xs) (k := k) (a := a) (by simpa using h) j hj
    rw [← this]
    congr 1
    simp [ac, lc]
    omega
/-- The slice reads xs the acts. -/
def ActsAt (w : World) (A : Option Addr) (n : Nat) (xs : List ActL) : Prop := CellsAt w A n 9 (acs xs)
section
variable {w w' : World} {A : Option Addr} {n : Nat} {xs : List ActL}
theorem ActsAt.len (h : ActsAt w A n xs) : xs.length = n := by
  have := h.1
  rw [acs_length] at this
  omega
theorem ActsAt.below (h : ActsAt w A n xs) (hb : Below w.heap.size w w') : ActsAt w' A n xs := CellsAt.below h hb
theorem ActsAt.at_ (h : ActsAt w A n xs) {k : Nat} (hk : k < n) : ∃ b off a, A = some ⟨b, off, none⟩ ∧ xs[k]? = some a := by
  have hl := h.len
  have hk' : k < xs.length := by omega
  obtain ⟨b, off, h1, -⟩ := h.2 (k * 9 + 0) _ (acs_get (List.getElem?_eq_getElem hk') 0 (by omega))
  exact ⟨b, off, xs[k], h1, List.getElem?_eq_getElem hk'⟩
end
theorem ActsAt.row {w : World} {b off n : Nat} {xs : List ActL} (h : ActsAt w (some ⟨b, off, none⟩) n xs) {k : Nat} {a : ActL} (hl : xs[k]? = some a) :
    ∀ j u, (#[.int .i64 a.kind, .int .i64 a.a, .int .i64 a.b, .int .i64 a.l.unit, .int .i64 a.l.id, .string ⟨a.l.r.low.toArray⟩, .string ⟨a.l.r.high.toArray⟩, .bool a.l.r.e, .bool a.l.x] : Array Value)[j]? = some u → w.cell? ((⟨b, off + k * 9, none⟩ : Addr).add j) = some u := by
  intro j u hj
  have hj9 : j < 9 := (Array.getElem?_eq_some_iff.1 hj).1
  have hu : (acs xs)[k * 9 + j]? = some u := by
    rw [acs_get hl j hj9]
    simpa [ac, lc] using hj
  obtain ⟨b', off', he, h1⟩ := h.2 _ u hu
  injection he with he
  injection he with he1 he2
  subst he1 he2
  rw [Addr.add_lit]
  show w.cell? ⟨b, off + k * 9 + j, none⟩ = some u
  rw [Nat.add_assoc]
  exact h1
/-- An act's cells in a box. -/
def aa (a : ActL) : Array Value := #[.int .i64 a.kind, .int .i64 a.a, .int .i64 a.b, .int .i64 a.l.unit, .int .i64 a.l.id, .string ⟨a.l.r.low.toArray⟩, .string ⟨a.l.r.high.toArray⟩, .bool a.l.r.e, .bool a.l.x]
theorem acells {w : World} {p : Nat} {t : TypeId} {a : ActL} (h : Blk w p t (aa a)) :
    w.cell? ⟨p, 0, none⟩ = some (.int .i64 a.kind) ∧ w.cell? ⟨p, 1, none⟩ = some (.int .i64 a.a) ∧ w.cell? ⟨p, 2, none⟩ = some (.int .i64 a.b) ∧ w.cell? ⟨p, 3, none⟩ = some (.int .i64 a.l.unit) ∧ w.cell? ⟨p, 4, none⟩ = some (.int .i64 a.l.id) ∧ w.cell? ⟨p, 5, none⟩ = some (.string ⟨a.l.r.low.toArray⟩) ∧ w.cell? ⟨p, 6, none⟩ = some (.string ⟨a.l.r.high.toArray⟩) ∧ w.cell? ⟨p, 7, none⟩ = some (.bool a.l.r.e) ∧ w.cell? ⟨p, 8, none⟩ = some (.bool a.l.x) :=
  ⟨h.cell 0, h.cell 1, h.cell 2, h.cell 3, h.cell 4, h.cell 5, h.cell 6, h.cell 7, h.cell 8⟩
def shortA (a : ActL) : Bool := decide ((a.l.r.low.length : Int) ≤ 40) && decide ((a.l.r.high.length : Int) ≤ 40)
def fewA (xs : List ActL) (most : Int) : Bool := decide ((xs.length : Int) ≤ most) && xs.all shortA
set_option maxRecDepth 100000 in
set_option maxHeartbeats 1000000 in
theorem cfFew (most : Int) (A : Option Addr) (n c : Nat) (xs : List ActL) (w : World) (h : ActsAt w A n xs) (hn : n ≤ 9223372036854775807) :
    Calls Tryz.prog 6 #[.slice A n c, .int .i64 most] w fun e w' => e = .returned (.bool (fewA xs most)) ∧ Below w.heap.size w w' := by
  have HS := Lib.hid h
  have hl := h.len
  clear h
  have hlenA : (Tryz.prog.info? 32).map (·.size) = some 9 := by kernel_rfl
  by_cases hm : most < (n : Int)
  · have HO := Lib.hid (show fewA xs most = false from by unfold fewA; rw [hl, decide_eq_false (by omega)]; rfl)
    go_enter Tryz.func6, Tryz.ntmps6
    go_wp2
    go_ret
    exact ⟨retBool HO.out.symm, Below.refl _ _⟩
  · have HFM := Lib.hid (show fewA xs most = xs.all shortA from by unfold fewA; rw [hl, decide_eq_true (by omega)]; rfl)
    have HLL := Lib.hid hl
    clear hl
    go_enter Tryz.func6, Tryz.ntmps6
    go_wp2
    go_loopw [13] (fun i wr => ∃ k : Nat, k ≤ n ∧ i = .int .i64 k ∧ Hid (∀ (j : Nat) (a : ActL), j < k → xs[j]? = some a → shortA a = true) ∧ Below w.heap.size w wr) (fun i _ => n - (intOf i).toNat)
    case atStart => exact ⟨0, Nat.zero_le _, rfl, fun j a hj => absurd hj (by omega), Below.refl _ _⟩
    case round =>
      obtain ⟨k, hk, rfl, hall, hbw⟩ := hrel
      have hsz := hbw.size
      by_cases hlt : k < n
      · have hs := HS.out.below hbw
        obtain ⟨b, off, a, rfl, ha⟩ := hs.at_ hlt
        have HR := Lib.hid (hs.row ha)
        have HA := Lib.hid ha
        have HSA := Lib.hid (show shortA a = (decide ((a.l.r.low.length : Int) ≤ 40) && decide ((a.l.r.high.length : Int) ≤ 40)) from rfl)
        clear hs ha
        go_upto_region 6 with (refine wpList_load_cells rfl 32 (.tmp 15) rfl ⟨b, off + k * 9, none⟩ rfl _ _ HR.out Tryz.underlying32 rfl hlenA ?_)
        obtain ⟨w4, g4, e1, e2, hb4, h4⟩ := boxes1 wr 32 (aa a)
        unfold aa at e1
        rw [e1, e2]
        have HB4 := Lib.hid (hbw.trans (hb4.mono hsz))
        obtain ⟨a0, a1, a2, a3, a4, a5, a6, a7, a8⟩ := acells h4
        clear e1 e2 hb4 h4
        by_cases hs1 : (a.l.r.low.length : Int) ≤ 40
        · by_cases hs2 : (a.l.r.high.length : Int) ≤ 40
          · have HT := Lib.hid (show shortA a = true from by rw [HSA.out, decide_eq_true hs1, decide_eq_true hs2]; rfl)
            go_wp2
            go_roundw
            case rel =>
              refine ⟨k + 1, by omega, by go_num, ?_, HB4.out⟩
              intro j a' hj ha'
              by_cases hjk : j = k
              · subst hjk
                have := HA.out.symm.trans ha'
                simp only [Option.some.injEq] at this
                subst this
                exact HT.out
              · exact hall.out j a' (by omega) ha'
            case measure => simp [intOf]; omega
          · have HT := Lib.hid (show fewA xs most = false from by
              rw [HFM.out, List.all_eq_false]
              exact ⟨a, List.mem_of_getElem? HA.out, by rw [HSA.out, decide_eq_true hs1, decide_eq_false hs2]; simp⟩)
            go_wp2
            go_ret
            exact ⟨retBool HT.out.symm, HB4.out⟩
        · have HT := Lib.hid (show fewA xs most = false from by
            rw [HFM.out, List.all_eq_false]
            exact ⟨a, List.mem_of_getElem? HA.out, by rw [HSA.out, decide_eq_false hs1]; simp⟩)
          go_wp2
          go_ret
          exact ⟨retBool HT.out.symm, HB4.out⟩
      · have HT := Lib.hid (show fewA xs most = true from by
          rw [HFM.out, List.all_eq_true]
          intro a ha
          obtain ⟨j, hj⟩ := List.mem_iff_getElem?.1 ha
          exact hall.out j a (by have := HLL.out; have := (List.getElem?_eq_some_iff.1 hj).1; omega) hj)
        go_wp2
        go_ret
        exact ⟨retBool HT.out.symm, hbw⟩
end Go.Proofs.YtjklhiifjnmedaaGreat
namespace Go.Proofs.YtjklhiifjnmedaaGreat
open Go.ChangeShapes Go.WideShapes Go.ChangeAt Go.RowKit Go.Deep P16 P46

theorem shapeR : ((Tryz.prog.fieldsOf 28).toList.map fun f => (f.type, f.offset, Tryz.prog.cellsOf f.type)) = [(9, 0, 1), (9, 1, 1), (4, 2, 1)] := by kernel_rfl
theorem shapeL : ((Tryz.prog.fieldsOf 30).toList.map fun f => (f.type, f.offset, Tryz.prog.cellsOf f.type)) = [(3, 0, 1), (3, 1, 1), (28, 2, 3), (4, 5, 1)] := by kernel_rfl
theorem shapeA : ((Tryz.prog.fieldsOf 32).toList.map fun f => (f.type, f.offset, Tryz.prog.cellsOf f.type)) = [(3, 0, 1), (3, 1, 1), (3, 2, 1), (30, 3, 6)] := by kernel_rfl
/-- The lock's unit is a number of the kind. -/
def UnitOk (l : Lock) : Prop := (Lit.int .i64 l.unit).wf = true
section
variable {H : Type} {enc : TypeId × Value → H} {w : World} {base : Nat} {spare : Nat → Bool} {held : Bool}
theorem trod_lock {fuel : Nat} {cs : List Value} {x : DataW H × List MemPlace} (h : DataW.trod enc Tryz.prog w base spare held fuel 30 cs = some x) : ∃ l : Lock, cs = lc l ∧ UnitOk l := by
  obtain ⟨hl, hf⟩ := trod_parts (by kernel_rfl) shapeL h
  rw [show Tryz.prog.cellsOf 30 = 6 from by kernel_rfl] at hl
  match cs, hl with
  | [c0, c1, c2, c3, c4, c5], _ =>
    obtain ⟨_, _, h0⟩ := hf 0 _ rfl
    obtain ⟨x0, rfl, w0⟩ := trod_int1 Tryz.underlying3 h0
    obtain ⟨_, _, h1⟩ := hf 1 _ rfl
    obtain ⟨x1, rfl, w1⟩ := trod_int1 Tryz.underlying3 h1
    obtain ⟨_, _, h2⟩ := hf 2 _ rfl
    obtain ⟨_, hg⟩ := trod_parts (by kernel_rfl) shapeR h2
    obtain ⟨_, _, g0⟩ := hg 0 _ rfl
    obtain ⟨y0, rfl, _⟩ := trod_string1 Tryz.underlying9 g0
    obtain ⟨_, _, g1⟩ := hg 1 _ rfl
    obtain ⟨y1, rfl, _⟩ := trod_string1 Tryz.underlying9 g1
    obtain ⟨_, _, g2⟩ := hg 2 _ rfl
    obtain ⟨y2, rfl⟩ := trod_bool1 Tryz.underlying4 g2
    obtain ⟨_, _, h3⟩ := hf 3 _ rfl
    obtain ⟨x3, rfl⟩ := trod_bool1 Tryz.underlying4 h3
    exact ⟨⟨x0, x1, ⟨y0, y1, y2⟩, x3⟩, rfl, w0⟩
/-- The act's numbers are of the kind. -/
def ActOk (a : ActL) : Prop := UnitOk a.l ∧ (Lit.int .i64 a.a).wf = true ∧ (Lit.int .i64 a.b).wf = true
theorem trod_act {fuel : Nat} {cs : List Value} {x : DataW H × List MemPlace} (h : DataW.trod enc Tryz.prog w base spare held fuel 32 cs = some x) : ∃ a : ActL, cs = ac a ∧ ActOk a := by
  obtain ⟨hl, hf⟩ := trod_parts (by kernel_rfl) shapeA h
  rw [show Tryz.prog.cellsOf 32 = 9 from by kernel_rfl] at hl
  match cs, hl with
  | c0 :: c1 :: c2 :: c3 :: c4 :: c5 :: c6 :: c7 :: c8 :: [], _ =>
    obtain ⟨_, _, h0⟩ := hf 0 _ rfl
    obtain ⟨x0, rfl, w0⟩ := trod_int1 Tryz.underlying3 h0
    obtain ⟨_, _, h1⟩ := hf 1 _ rfl
    obtain ⟨x1, rfl, w1⟩ := trod_int1 Tryz.underlying3 h1
    obtain ⟨_, _, h2⟩ := hf 2 _ rfl
    obtain ⟨x2, rfl, w2⟩ := trod_int1 Tryz.underlying3 h2
    obtain ⟨_, _, h3⟩ := hf 3 _ rfl
    obtain ⟨l, hl, hu⟩ := trod_lock h3
    exact ⟨⟨x0, x1, x2, l⟩, by show _ = Value.int .i64 x0 :: .int .i64 x1 :: .int .i64 x2 :: lc l; rw [← hl]; rfl, hu, w1, w2⟩
set_option maxRecDepth 100000 in
theorem open_lock {r : Reach} {b0 : Nat} {v : Value} {d : DataW H} {p : List MemPlace} (hv : Value.okWide Tryz.prog w r b0 30 v) (h : DataW.Trod enc Tryz.prog w base spare held 30 v d p) : ∃ l : Lock, v = lv l := by
  obtain ⟨cs, rfl, _⟩ := okWide_struct underL hv
  obtain ⟨fuel, hf⟩ := h
  obtain ⟨l, hq, _⟩ := trod_lock hf
  refine ⟨l, ?_⟩
  have : cs.toList = _ := hq
  rw [← Array.toArray_toList (xs := cs), this]
  rfl
theorem open_locks_at {t : TypeId} {A : Option Addr} {n c : Nat} {d : DataW H} {p : List MemPlace} (ht : Tryz.prog.underlying t = some (.slice 30)) (h : DataW.Trod enc Tryz.prog w base spare held t (.slice A n c) d p) :
    ∃ ls : List Lock, LocksAt w A n ls ∧ n ≤ maxLen ∧ ∀ l ∈ ls, UnitOk l := by
  obtain ⟨fuel, hf⟩ := h
  rcases open_slice ht hf with ⟨hcs, _⟩ | ⟨a, len, cap, m, k, D, Pl, hcs, _, hl, hm, hmm, _, hx⟩
  · simp [Value.cells] at hcs
    obtain ⟨rfl, rfl, rfl⟩ := hcs
    exact ⟨[], LocksAt.nil, Nat.zero_le _, by simp⟩
  · simp [Value.cells] at hcs
    obtain ⟨rfl, rfl, rfl⟩ := hcs
    have hnm : n ≤ m := by rw [hmm]; split <;> omega
    rw [show Tryz.prog.cellsOf 30 = 6 from by kernel_rfl] at hx
    have each : ∀ i, i < n → ∃ l : Lock, UnitOk l ∧ ∀ j, j < 6 → ∃ u, (lc l)[j]? = some u ∧ w.cell? (a.add (i * 6 + j)) = some u := by
      intro i hi
      obtain ⟨cs', h1, h2⟩ := hx i (by omega)
      obtain ⟨_, hlen, hcell⟩ := World.cells?_some h1
      obtain ⟨l, rfl, hu⟩ := trod_lock h2
      refine ⟨l, hu, fun j hj => ?_⟩
      have := hcell j hj
      rw [add_add] at this
      exact ⟨(lc l)[j]'(by simpa [lc] using hj), List.getElem?_eq_getElem _, by rw [this]; simp [lc, hj]⟩
    haveI : Inhabited Lock := ⟨zeroL⟩
    obtain ⟨f, hfn⟩ := choose_lt each
    refine ⟨(List.range n).map f, ⟨by rw [lcs_length]; simp, fun j u hj => ?_⟩, by omega, fun l hl => ?_⟩
    · have hjl : j < n * 6 := by
        have := (List.getElem?_eq_some_iff.1 hj).1
        rw [lcs_length] at this
        simpa using this
      have hq : j / 6 < n := by omega
      have hg : ((List.range n).map f)[j / 6]? = some (f (j / 6)) := by simp [hq]
      have hs := lcs_get hg (j % 6) (by omega)
      rw [show j / 6 * 6 + j % 6 = j by omega, hj] at hs
      obtain ⟨u', hu', hc⟩ := (hfn (j / 6) hq).2 (j % 6) (by omega)
      rw [show j / 6 * 6 + j % 6 = j by omega] at hc
      obtain rfl : u = u' := by rw [hu'] at hs; exact Option.some.inj hs
      obtain ⟨b, off, spot⟩ := a
      have hspot : spot = none := by
        obtain ⟨_, _, h0⟩ := (hfn 0 (by omega)).2 0 (by omega)
        simpa [Addr.add] using World.cell?_spot h0
      subst hspot
      refine ⟨b, off, rfl, ?_⟩
      rw [Addr.add_lit] at hc
      exact hc
    · obtain ⟨i, hi, rfl⟩ := List.mem_map.1 hl
      exact (hfn i (by simpa using hi)).1
theorem open_acts_at {t : TypeId} {A : Option Addr} {n c : Nat} {d : DataW H} {p : List MemPlace} (ht : Tryz.prog.underlying t = some (.slice 32)) (h : DataW.Trod enc Tryz.prog w base spare held t (.slice A n c) d p) :
    ∃ xs : List ActL, ActsAt w A n xs ∧ n ≤ maxLen ∧ ∀ a ∈ xs, ActOk a := by
  obtain ⟨fuel, hf⟩ := h
  rcases open_slice ht hf with ⟨hcs, _⟩ | ⟨a, len, cap, m, k, D, Pl, hcs, _, hl, hm, hmm, _, hx⟩
  · simp [Value.cells] at hcs
    obtain ⟨rfl, rfl, rfl⟩ := hcs
    exact ⟨[], ⟨rfl, fun j u h => by simp [acs] at h⟩, Nat.zero_le _, by simp⟩
  · simp [Value.cells] at hcs
    obtain ⟨rfl, rfl, rfl⟩ := hcs
    have hnm : n ≤ m := by rw [hmm]; split <;> omega
    rw [show Tryz.prog.cellsOf 32 = 9 from by kernel_rfl] at hx
    have each : ∀ i, i < n → ∃ l : ActL, ActOk l ∧ ∀ j, j < 9 → ∃ u, (ac l)[j]? = some u ∧ w.cell? (a.add (i * 9 + j)) = some u := by
      intro i hi
      obtain ⟨cs', h1, h2⟩ := hx i (by omega)
      obtain ⟨_, hlen, hcell⟩ := World.cells?_some h1
      obtain ⟨l, rfl, hu⟩ := trod_act h2
      refine ⟨l, hu, fun j hj => ?_⟩
      have := hcell j hj
      rw [add_add] at this
      exact ⟨(ac l)[j]'(by simpa [ac, lc] using hj), List.getElem?_eq_getElem _, by rw [this]; simp [ac, lc, hj]⟩
    haveI : Inhabited ActL := ⟨⟨0, 0, 0, zeroL⟩⟩
    obtain ⟨f, hfn⟩ := choose_lt each
    refine ⟨(List.range n).map f, ⟨by rw [acs_length]; simp, fun j u hj => ?_⟩, by omega, fun l hl => ?_⟩
    · have hjl : j < n * 9 := by
        have := (List.getElem?_eq_some_iff.1 hj).1
        rw [acs_length] at this
        simpa using this
      have hq : j / 9 < n := by omega
      have hg : ((List.range n).map f)[j / 9]? = some (f (j / 9)) := by simp [hq]
      have hs := acs_get hg (j % 9) (by omega)
      rw [show j / 9 * 9 + j % 9 = j by omega, hj] at hs
      obtain ⟨u', hu', hc⟩ := (hfn (j / 9) hq).2 (j % 9) (by omega)
      rw [show j / 9 * 9 + j % 9 = j by omega] at hc
      obtain rfl : u = u' := by rw [hu'] at hs; exact Option.some.inj hs
      obtain ⟨b, off, spot⟩ := a
      have hspot : spot = none := by
        obtain ⟨_, _, h0⟩ := (hfn 0 (by omega)).2 0 (by omega)
        simpa [Addr.add] using World.cell?_spot h0
      subst hspot
      refine ⟨b, off, rfl, ?_⟩
      rw [Addr.add_lit] at hc
      exact hc
    · obtain ⟨i, hi, rfl⟩ := List.mem_map.1 hl
      exact (hfn i (by simpa using hi)).1
end
end Go.Proofs.YtjklhiifjnmedaaGreat
namespace Go.Proofs.YtjklhiifjnmedaaGreat
open Go.RowKit Go.Maps P16 P46
attribute [local go_sem] ByteArray.mk_append_mk ByteArray.extract_mk mk_index

def expTo (F : P52.Fs) : Nat → List Lock
  | 0 => []
  | k + 1 => expTo F k ++ P52.exportL F ((k : Int) + 1)
theorem expTo_all (F : P52.Fs) : expTo F 4 = P52.exportsL F := by
  unfold P52.exportsL
  simp [expTo]
theorem expTo_len (F : P52.Fs) : ∀ k, (expTo F k).length ≤ k * F.s.h.length
  | 0 => by simp [expTo]
  | k + 1 => by
    have h1 := expTo_len F k
    have h2 : (P52.exportL F ((k : Int) + 1)).length ≤ F.s.h.length := List.length_filter_le _ _
    rw [expTo, List.length_append, Nat.succ_mul]
    omega
set_option maxRecDepth 100000 in
set_option maxHeartbeats 1000000 in
theorem cfExports (B b : Nat) (F : P52.Fs) (S : Nat → Prop) (w : World) (n : Nat) (hf : Fac w B b F S) (ok : P52.Ok F n) (hn : n < 90000) :
    Calls Tryz.prog 19 #[.pointer (some ⟨b, 0, none⟩)] w fun e w' => ∃ v, e = .returned v ∧ OwnL w' w.heap.size 30 v (P52.exportsL F) ∧ Below w.heap.size w w' := by
  have HF := Lib.hid hf
  have HOK := Lib.hid ok
  obtain ⟨i0, hi0, hz0, hz1, hz2⟩ := info_parts infoL
  have HI := Lib.hid hi0
  have HZ0 := Lib.hid hz0
  have HZ1 := Lib.hid hz1
  have HZ2 := Lib.hid hz2
  have HN := Lib.hid hn
  clear hi0 hz0 hz1 hz2 hf ok hn
  go_enter Tryz.func19, Tryz.ntmps19
  go_wp2
  go_loopw [3, 4] (fun v i wr => ∃ k : Nat, k ≤ 4 ∧ i = .int .i64 (k + 1) ∧ OwnL wr w.heap.size 30 v (expTo F k) ∧ Below w.heap.size w wr) (fun _ i _ => 6 - (intOf i).toNat)
  case atStart => exact ⟨0, by omega, by simp, OwnL.nil _ _ _, Below.refl _ _⟩
  case round =>
    obtain ⟨k, hk, rfl, ho, hbw⟩ := hrel
    have HO := Lib.hid ho
    have HB := Lib.hid hbw
    clear ho hbw
    by_cases hlt : k < 4
    · have HLN := Lib.hid (show (expTo F k).length + (P52.exportL F ((k : Int) + 1)).length ≤ 1000000 from by
        have h1 := expTo_len F k
        have h2 : (P52.exportL F ((k : Int) + 1)).length ≤ F.s.h.length := List.length_filter_le _ _
        have h3 := HOK.out.len
        have h4 := HN.out
        have h5 : k * F.s.h.length ≤ 4 * F.s.h.length := Nat.mul_le_mul_right _ hk
        omega)
      have HX := Lib.hid (show expTo F (k + 1) = expTo F k ++ P52.exportL F ((k : Int) + 1) from rfl)
      obtain ⟨A9, c9, rfl, -, -⟩ := HO.out.cells
      go_wp2_with (first | (go_at_call 34; refine (cfExport ((k : Int) + 1) B b F S wr n (HF.out.below HB.out) HOK.out HN.out).mono ?_; rintro e w2 ⟨v2, rfl, ho2, hb2⟩; have HO2 := Lib.hid (HO.out.below hb2); have HB2 := Lib.hid (HB.out.trans (hb2.mono HB.out.size)); obtain ⟨A2, c2, rfl, hs2, -⟩ := ho2.cells; have HS2 := Lib.hid hs2; have HL2 := Lib.hid ho2.nilLen; clear ho2 hb2 hs2) | (at_builtin; refine wpList_append_locks rfl (.tmp 9) (.tmp 12) _ rfl w.heap.size 30 i0 _ 64 Tryz.underlying41 HI.out HZ0.out HZ1.out HZ2.out rfl (by omega) _ (expTo F k) rfl HO2.out _ A2 _ c2 rfl HL2.out HS2.out HLN.out HB2.out.size ?_; intro v3 w3 hown3 hg3 hat3; have HO3 := Lib.hid hown3; have HB3 := Lib.hid (HB2.out.grown hg3 HB2.out.size (fun x hx => (HO2.out.lt x hx).1)); clear hown3 hg3 hat3))
      go_roundw
      case rel => exact ⟨k + 1, by omega, by go_num, by rw [HX.out]; exact HO3.out, HB3.out⟩
      case measure => simp [intOf]; omega
    · have hk4 : k = 4 := by omega
      subst hk4
      go_wp2
      go_ret
      exact ⟨_, rfl, by rw [← expTo_all]; exact HO.out, HB.out⟩
end Go.Proofs.YtjklhiifjnmedaaGreat
namespace Go.Proofs.YtjklhiifjnmedaaGreat
open Go.RowKit Go.Maps P16 P46
attribute [local go_sem] ByteArray.mk_append_mk ByteArray.extract_mk mk_index

set_option maxRecDepth 100000 in
theorem cfReb1 (x y : Lock) (g : Nat) (w : World) (h : Blk w g 30 (la x)) :
    Calls Tryz.prog 56 #[lv y, .pointer (some ⟨g, 0, none⟩)] w fun e w' => e = .returned (.bool (conflict x y)) ∧ Below w.heap.size w w' := by
  have HX := Lib.hid h
  clear h
  have hlenL : (Tryz.prog.info? 30).map (·.size) = some 6 := by kernel_rfl
  unfold lv
  go_enter Tryz.func56, Tryz.ntmps56
  go_upto_region 1 with (fail)
  obtain ⟨w1, g1, e1, e2, hb, hx⟩ := boxes1 w 30 (la y)
  unfold la at e1
  rw [e1, e2]
  have HB := Lib.hid hb
  have HR1 := Lib.hid (HX.out.below hb).add
  have HR2 := Lib.hid hx.add
  clear e1 e2 hb hx
  go_wp2_with (first | (refine wpList_load_cells rfl 30 (.tmp 1) rfl ⟨g, 0, none⟩ rfl _ _ HR1.out Tryz.underlying30 rfl hlenL ?_) | (refine wpList_load_cells rfl 30 (.tmp 2) rfl ⟨g1, 0, none⟩ rfl _ _ HR2.out Tryz.underlying30 rfl hlenL ?_) | (go_at_call 57; refine (lkConflict x y _).mono ?_; rintro e w2 ⟨rfl, hb2⟩; have HB2 := Lib.hid (below_then HB.out hb2); clear hb2))
  go_ret
  exact ⟨rfl, HB2.out⟩
theorem asksReb (x : Lock) (g : Nat) (w : World) (h : Blk w g 30 (la x)) : Asks 56 g (fun y => conflict x y) w where
  known := fun args W => by kernel_rfl
  ask := fun y W hW => cfReb1 x y g W (h.below hW)
theorem fcs_reb (F : P52.Fs) (s : St) (p p2 nb : Nat) : ((fcs F p nb).setIfInBounds 10 (.pointer (some ⟨p2, 0, none⟩))).setIfInBounds 12 (.bool false) = fcs ⟨F.ep, F.cn, s, false, F.fast⟩ p2 nb := by simp [fcs]
theorem okTo_step {F : P52.Fs} {ls : List Lock} {k : Nat} {x : Lock} (h : P52.okTo F ls k = true) (hx : ls[k]? = some x) : P52.okTo F ls (k + 1) = (validL x && P52.pres F x.unit && !((ls.take k).any fun y => conflict x y)) := by
  rw [P52.okTo, h, hx, Bool.true_and]
set_option maxRecDepth 100000 in
set_option maxHeartbeats 4000000 in
theorem cfRebuild (A : Option Addr) (m c : Nat) (ls : List Lock) (B b : Nat) (F : P52.Fs) (S : Nat → Prop) (w : World) (hf : Fac w B b F S) (ha : LocksAt w A m ls) (hm : m ≤ 100000) (hc : m ≤ c) (hu : ∀ l ∈ ls, InR l.unit) :
    Calls Tryz.prog 20 #[.pointer (some ⟨b, 0, none⟩), .slice A m c] w (CPost w B b S (P52.rebuild F ls).1 (P52.rebuild F ls).2) := by
  have HFA := Lib.hid hf
  obtain ⟨p, nb, vh, vq, h, hs⟩ := hf
  have HF := Lib.hid h
  have HS := Lib.hid hs
  have HA := Lib.hid ha
  have HU := Lib.hid hu
  have hlenL : (Tryz.prog.info? 30).map (·.size) = some 6 := by kernel_rfl
  have hc12 := h.box.cell 12
  simp [fcs] at hc12
  clear h hs ha hu
  have HP0 := Lib.hid (show F.lost = false → P52.rebuild F ls = (F, 9) from fun e => by unfold P52.rebuild; rw [if_pos e])
  have HP1 := Lib.hid (show F.lost = true → P52.okTo F ls ls.length = true → P52.rebuild F ls = (⟨F.ep, F.cn, ⟨newL ls, []⟩, false, F.fast⟩, 0) from fun e h => by unfold P52.rebuild; rw [if_neg (by rw [e]; decide), if_pos h])
  have HP2 := Lib.hid (show F.lost = true → P52.okTo F ls ls.length = false → P52.rebuild F ls = (F, 1) from fun e h => by unfold P52.rebuild; rw [if_neg (by rw [e]; decide), if_neg (by rw [h]; decide)])
  generalize P52.rebuild F ls = rb at HP0 HP1 HP2 ⊢
  obtain ⟨lo, hlo⟩ : ∃ lo, F.lost = lo := ⟨_, rfl⟩
  rw [hlo] at hc12
  have HLO := Lib.hid hlo
  clear hlo
  cases lo with
  | false =>
    go_enter Tryz.func20, Tryz.ntmps20
    go_wp2
    go_ret
    rw [HP0.out HLO.out]
    exact CPost.still HFA.out (Below.refl _ _)
  | true =>
    go_enter Tryz.func20, Tryz.ntmps20
    go_wp2
    clear hc12
    go_loopw [16] (fun i wr => ∃ k : Nat, k ≤ m ∧ i = .int .i64 k ∧ P52.okTo F ls k = true ∧ Below w.heap.size w wr) (fun i _ => m - (intOf i).toNat)
    case atStart => exact ⟨0, Nat.zero_le _, rfl, rfl, Below.refl _ _⟩
    case round =>
      obtain ⟨k, hk, rfl, hok, hbw⟩ := hrel
      have HOK := Lib.hid hok
      have HB := Lib.hid hbw
      clear hok hbw
      by_cases hlt : k < m
      · have hs4 := HA.out.below HB.out
        obtain ⟨bk, off, x, rfl, hx, -⟩ := hs4.at_ hlt
        have HR := Lib.hid (hs4.row hx)
        have HUX := Lib.hid (HU.out x (List.mem_iff_getElem?.2 ⟨k, hx⟩))
        have HST := Lib.hid (okTo_step HOK.out hx)
        have HBAD := Lib.hid (show P52.okTo F ls (k + 1) = false → P52.okTo F ls ls.length = false from fun hb => P52.okTo_le hb (by rw [HA.out.len]; omega))
        have HTK := Lib.hid (HA.out.take (k := k) (by omega))
        obtain ⟨v, hv⟩ : ∃ v, validL x = v := ⟨_, rfl⟩
        obtain ⟨q, hq⟩ : ∃ q, P52.pres F x.unit = q := ⟨_, rfl⟩
        obtain ⟨an, han⟩ : ∃ an, ((ls.take k).any fun y => conflict x y) = an := ⟨_, rfl⟩
        rw [hv, hq, han] at HST
        have HV := Lib.hid hv
        have HQ := Lib.hid hq
        have HAN := Lib.hid han
        clear hs4 hx hv hq han
        go_upto_region 6 with (refine wpList_load_cells rfl 30 (.tmp 19) rfl ⟨bk, off + k * 6, none⟩ rfl _ _ HR.out Tryz.underlying30 rfl hlenL ?_)
        obtain ⟨w4, g4, e1, e2, hb4, h4⟩ := boxes1 wr 30 (la x)
        unfold la at e1
        rw [e1, e2]
        have HB4 := Lib.hid (HB.out.trans (hb4.mono HB.out.size))
        have HX4 := Lib.hid h4
        obtain ⟨a0, -, -, -, -, -⟩ := lcells h4
        clear e1 e2 hb4 h4
        go_upto_region 7 with (go_at_call 51; refine (cfSystem x.unit HUX.out b p nb F _ (HF.out.below HB4.out).box).mono ?_; rintro e w5 ⟨rfl, hb5⟩; rw [HQ.out]; have HB5 := Lib.hid (HB4.out.trans (hb5.mono HB4.out.size)); have HX5 := Lib.hid (HX4.out.below hb5); clear hb5 a0)
        have HR5 := Lib.hid HX5.out.add
        cases v with
        | false =>
          have HOKF := Lib.hid (HP2.out HLO.out (HBAD.out (by rw [HST.out]; rfl)))
          go_wp2_with (first | (refine wpList_load_cells rfl 30 (.tmp 6) rfl ⟨g4, 0, none⟩ rfl _ _ HR5.out Tryz.underlying30 rfl hlenL ?_) | (go_at_call 52; refine (lkValid x w5).mono ?_; rintro e w6 ⟨rfl, hb6⟩; rw [HV.out]; have HB6 := Lib.hid (HB5.out.trans (hb6.mono HB5.out.size)); clear hb6))
          go_ret
          rw [HOKF.out]
          exact CPost.still HFA.out HB6.out
        | true =>
          cases q with
          | false =>
            have HOKF := Lib.hid (HP2.out HLO.out (HBAD.out (by rw [HST.out]; rfl)))
            go_wp2_with (first | (refine wpList_load_cells rfl 30 (.tmp 6) rfl ⟨g4, 0, none⟩ rfl _ _ HR5.out Tryz.underlying30 rfl hlenL ?_) | (go_at_call 52; refine (lkValid x w5).mono ?_; rintro e w6 ⟨rfl, hb6⟩; rw [HV.out]; have HB6 := Lib.hid (HB5.out.trans (hb6.mono HB5.out.size)); clear hb6))
            go_ret
            rw [HOKF.out]
            exact CPost.still HFA.out HB6.out
          | true =>
            cases an with
            | false =>
              have HNX := Lib.hid (show P52.okTo F ls (k + 1) = true from by rw [HST.out]; rfl)
              go_wp2_with (first | (refine wpList_load_cells rfl 30 (.tmp 6) rfl ⟨g4, 0, none⟩ rfl _ _ HR5.out Tryz.underlying30 rfl hlenL ?_) | (go_at_call 52; refine (lkValid x w5).mono ?_; rintro e w6 ⟨rfl, hb6⟩; rw [HV.out]; have HB6 := Lib.hid (HB5.out.trans (hb6.mono HB5.out.size)); have HX6 := Lib.hid (HX5.out.below hb6); clear hb6) | (go_at_call 55; refine (lkContainsFunc 56 g4 (fun y => conflict x y) _ k _ _ w6 (HTK.out.below HB6.out) (by omega) (asksReb x g4 w6 HX6.out)).mono ?_; rintro e w7 ⟨rfl, hb7⟩; rw [HAN.out]; have HB7 := Lib.hid (HB6.out.trans (hb7.mono HB6.out.size)); clear hb7))
              go_roundw
              case rel => exact ⟨k + 1, by omega, by go_num, HNX.out, HB7.out⟩
              case measure => simp [intOf]; omega
            | true =>
              have HOKF := Lib.hid (HP2.out HLO.out (HBAD.out (by rw [HST.out]; rfl)))
              go_wp2_with (first | (refine wpList_load_cells rfl 30 (.tmp 6) rfl ⟨g4, 0, none⟩ rfl _ _ HR5.out Tryz.underlying30 rfl hlenL ?_) | (go_at_call 52; refine (lkValid x w5).mono ?_; rintro e w6 ⟨rfl, hb6⟩; rw [HV.out]; have HB6 := Lib.hid (HB5.out.trans (hb6.mono HB5.out.size)); have HX6 := Lib.hid (HX5.out.below hb6); clear hb6) | (go_at_call 55; refine (lkContainsFunc 56 g4 (fun y => conflict x y) _ k _ _ w6 (HTK.out.below HB6.out) (by omega) (asksReb x g4 w6 HX6.out)).mono ?_; rintro e w7 ⟨rfl, hb7⟩; rw [HAN.out]; have HB7 := Lib.hid (HB6.out.trans (hb7.mono HB6.out.size)); clear hb7))
              go_ret
              rw [HOKF.out]
              exact CPost.still HFA.out HB7.out
      · have hkm : k = m := by omega
        subst hkm
        have HOK2 := Lib.hid (show P52.okTo F ls ls.length = true from by rw [HA.out.len]; exact HOK.out)
        go_wp2_with (go_at_call 37; refine (lkNew A k c ls wr (HA.out.below HB.out) (by omega)).mono ?_; rintro e w1 ⟨p2, vh2, rfl, hmg, hb1⟩; have HM := Lib.hid hmg; have HB1 := Lib.hid hb1; have HFR := Lib.hid (HF.out.below HB.out); have hx := h1_box HFR.out hb1; obtain ⟨x1, x2, x3, x4⟩ := hx; clear hmg hb1)
        have hg := grown_trans (grownBy_setCell w1 b 10 (.pointer (some ⟨p2, 0, none⟩))) (grownBy_setCell _ b 12 (.bool false))
        have hb := ((HFR.out.box.below HB1.out).put 10 (.pointer (some ⟨p2, 0, none⟩))).put 12 (.bool false)
        rw [fcs_reb F ⟨newL ls, []⟩] at hb
        obtain ⟨hf2, hc2⟩ := HFR.out.renew HB1.out HM.out hg hb rfl
        have HF2 := Lib.hid hf2
        have HC2 := Lib.hid (((Chg.of_below (S := FSet w b p nb) HB.out).congr HS.out (fun x => HF.out.foot_below HB.out x)).trans hc2)
        clear hg hb hf2 hc2
        go_ret
        rw [HP1.out HLO.out HOK2.out]
        exact ⟨_, rfl, HF2.out.fac, HC2.out⟩
end Go.Proofs.YtjklhiifjnmedaaGreat
namespace Go.Proofs.YtjklhiifjnmedaaGreat
open Go.RowKit Go.Maps P16 P46
attribute [local go_sem] ByteArray.mk_append_mk ByteArray.extract_mk mk_index

theorem OwnL.len_cap {w : World} {B : Nat} {e : TypeId} {v : Value} {ls : List Lock} (h : OwnL w B e v ls) : ∀ A n c, v = .slice A n c → ls.length ≤ c := by
  intro A n c hv
  rcases h.2 with ⟨h1, h0⟩ | ⟨g, cap, cur, h1, _, _, h2, _⟩
  · omega
  · rw [hv] at h1
    injection h1 with _ _ h3
    omega
theorem exports_held {F : P52.Fs} {l : Lock} (h : l ∈ P52.exportsL F) : l ∈ F.s.h := by
  unfold P52.exportsL P52.exportL at h
  simp only [List.mem_append, List.mem_filter] at h
  rcases h with ((h | h) | h) | h <;> exact h.1
theorem Blk.addFrom {w : World} {p : Nat} {t : TypeId} {cs : Array Value} (h : Blk w p t cs) (i : Nat) : ∀ j u, (cs.toList.drop i)[j]? = some u → w.cell? ((⟨p, i, none⟩ : Addr).add j) = some u := by
  intro j u hj
  rw [Addr.add_lit, h.cell]
  simpa using hj
/-- What an act leaves. -/
def DPost (w : World) (B b : Nat) (S : Nat → Prop) (r : P52.Fs × Int × List Int) (e : Ending) (w' : World) : Prop := ∃ v S', e = .returned (.tuple #[.int .i64 r.2.1, v]) ∧ OwnI w' w.heap.size v r.2.2 ∧ Fac w' B b r.1 S' ∧ Chg S S' w w' ∧ (∀ k, v.ownBlock = some k → ¬ S' k)
set_option maxRecDepth 100000 in
set_option maxHeartbeats 4000000 in
theorem cfDo (a : ActL) (hu : InR a.l.unit) (B b : Nat) (F : P52.Fs) (S : Nat → Prop) (w : World) (n : Nat) (hf : Fac w B b F S) (ok : P52.Ok F n) (hn : n < 90000) :
    Calls Tryz.prog 9 #[.pointer (some ⟨b, 0, none⟩), av a] w (DPost w B b S (P52.act F a)) := by
  have HU := Lib.hid hu
  have HF := Lib.hid hf
  have HOK := Lib.hid ok
  have HN := Lib.hid hn
  clear hu hf ok hn
  have hlenL : (Tryz.prog.info? 30).map (·.size) = some 6 := by kernel_rfl
  obtain ⟨kd, hkd⟩ : ∃ kd, a.kind.tmod 11 = kd := ⟨_, rfl⟩
  by_cases k4 : kd = 4
  · have HA := Lib.hid (show P52.act F a = ((P52.cancel F a.l.unit).1, 0, (P52.cancel F a.l.unit).2) from by unfold P52.act; rw [if_pos (by rw [hkd]; exact k4)])
    have b4 : (a.kind.tmod 11 == 4) = true := by rw [hkd]; exact beq_of k4
    clear hkd k4
    unfold av
    go_enter Tryz.func9, Tryz.ntmps9
    go_upto_region 1 with (fail)
    obtain ⟨w2, g, e1, e2, hb, h1⟩ := boxes1 w 32 (aa a)
    unfold aa at e1
    rw [e1, e2]
    obtain ⟨a0, a1, a2, a3, a4, a5, a6, a7, a8⟩ := acells h1
    have HB := Lib.hid hb
    have HF2 := Lib.hid (HF.out.below hb)
    have HR := Lib.hid (show ∀ j u, (la a.l)[j]? = some u → w2.cell? ((⟨g, 3, none⟩ : Addr).add j) = some u from fun j u hj => h1.addFrom 3 j u (by simpa [aa, la] using hj))
    clear e1 e2 hb h1
    go_wp2_with (go_at_call 18; refine (cfCancel a.l.unit B b F S _ n HF2.out HOK.out HN.out).mono ?_; rintro e w3 ⟨v, S3, rfl, ho, hf3, hc3, hn3⟩; have HO := Lib.hid ho; have HF3 := Lib.hid hf3; have HC3 := Lib.hid hc3; have HN3 := Lib.hid hn3; clear ho hf3 hc3 hn3)
    go_ret2
    rw [HA.out]
    exact ⟨_, S3, rfl, HO.out.base HB.out.size, HF3.out, (Chg.of_below HB.out).trans HC3.out, HN3.out⟩
  · skip
    by_cases k5 : kd = 5
    · have HA := Lib.hid (show P52.act F a = ((P52.release F a.l.unit).1, 0, (P52.release F a.l.unit).2) from by unfold P52.act; rw [if_neg (by rw [hkd]; exact k4), if_pos (by rw [hkd]; exact k5)])
      have b4 : (a.kind.tmod 11 == 4) = false := by rw [hkd]; exact beq_not k4
      have b5 : (a.kind.tmod 11 == 5) = true := by rw [hkd]; exact beq_of k5
      clear hkd k4 k5
      unfold av
      go_enter Tryz.func9, Tryz.ntmps9
      go_upto_region 1 with (fail)
      obtain ⟨w2, g, e1, e2, hb, h1⟩ := boxes1 w 32 (aa a)
      unfold aa at e1
      rw [e1, e2]
      obtain ⟨a0, a1, a2, a3, a4, a5, a6, a7, a8⟩ := acells h1
      have HB := Lib.hid hb
      have HF2 := Lib.hid (HF.out.below hb)
      have HR := Lib.hid (show ∀ j u, (la a.l)[j]? = some u → w2.cell? ((⟨g, 3, none⟩ : Addr).add j) = some u from fun j u hj => h1.addFrom 3 j u (by simpa [aa, la] using hj))
      clear e1 e2 hb h1
      go_wp2_with (go_at_call 39; refine (cfRelease a.l.unit B b F S _ n HF2.out HOK.out HN.out).mono ?_; rintro e w3 ⟨v, S3, rfl, ho, hf3, hc3, hn3⟩; have HO := Lib.hid ho; have HF3 := Lib.hid hf3; have HC3 := Lib.hid hc3; have HN3 := Lib.hid hn3; clear ho hf3 hc3 hn3)
      go_ret2
      rw [HA.out]
      exact ⟨_, S3, rfl, HO.out.base HB.out.size, HF3.out, (Chg.of_below HB.out).trans HC3.out, HN3.out⟩
    · skip
      by_cases k6 : kd = 6
      · have HA := Lib.hid (show P52.act F a = ((P52.connect F a.a a.b).1, (P52.connect F a.a a.b).2, []) from by unfold P52.act; rw [if_neg (by rw [hkd]; exact k4), if_neg (by rw [hkd]; exact k5), if_pos (by rw [hkd]; exact k6)])
        have b4 : (a.kind.tmod 11 == 4) = false := by rw [hkd]; exact beq_not k4
        have b5 : (a.kind.tmod 11 == 5) = false := by rw [hkd]; exact beq_not k5
        have b6 : (a.kind.tmod 11 == 6) = true := by rw [hkd]; exact beq_of k6
        clear hkd k4 k5 k6
        unfold av
        go_enter Tryz.func9, Tryz.ntmps9
        go_upto_region 1 with (fail)
        obtain ⟨w2, g, e1, e2, hb, h1⟩ := boxes1 w 32 (aa a)
        unfold aa at e1
        rw [e1, e2]
        obtain ⟨a0, a1, a2, a3, a4, a5, a6, a7, a8⟩ := acells h1
        have HB := Lib.hid hb
        have HF2 := Lib.hid (HF.out.below hb)
        have HR := Lib.hid (show ∀ j u, (la a.l)[j]? = some u → w2.cell? ((⟨g, 3, none⟩ : Addr).add j) = some u from fun j u hj => h1.addFrom 3 j u (by simpa [aa, la] using hj))
        clear e1 e2 hb h1
        go_wp2_with (go_at_call 15; refine (cfConnect a.a a.b B b F S _ HF2.out).mono ?_; rintro e w3 ⟨S3, rfl, hf3, hc3⟩; have HF3 := Lib.hid hf3; have HC3 := Lib.hid hc3; clear hf3 hc3)
        go_ret2
        rw [HA.out]
        exact ⟨_, S3, rfl, OwnI.nil _ _, HF3.out, (Chg.of_below HB.out).trans HC3.out, fun k hk => by simp [Value.ownBlock] at hk⟩
      · skip
        by_cases k7 : kd = 7
        · have HA := Lib.hid (show P52.act F a = (P52.fail F a.a, 0, []) from by unfold P52.act; rw [if_neg (by rw [hkd]; exact k4), if_neg (by rw [hkd]; exact k5), if_neg (by rw [hkd]; exact k6), if_pos (by rw [hkd]; exact k7)])
          have b4 : (a.kind.tmod 11 == 4) = false := by rw [hkd]; exact beq_not k4
          have b5 : (a.kind.tmod 11 == 5) = false := by rw [hkd]; exact beq_not k5
          have b6 : (a.kind.tmod 11 == 6) = false := by rw [hkd]; exact beq_not k6
          have b7 : (a.kind.tmod 11 == 7) = true := by rw [hkd]; exact beq_of k7
          clear hkd k4 k5 k6 k7
          unfold av
          go_enter Tryz.func9, Tryz.ntmps9
          go_upto_region 1 with (fail)
          obtain ⟨w2, g, e1, e2, hb, h1⟩ := boxes1 w 32 (aa a)
          unfold aa at e1
          rw [e1, e2]
          obtain ⟨a0, a1, a2, a3, a4, a5, a6, a7, a8⟩ := acells h1
          have HB := Lib.hid hb
          have HF2 := Lib.hid (HF.out.below hb)
          have HR := Lib.hid (show ∀ j u, (la a.l)[j]? = some u → w2.cell? ((⟨g, 3, none⟩ : Addr).add j) = some u from fun j u hj => h1.addFrom 3 j u (by simpa [aa, la] using hj))
          clear e1 e2 hb h1
          go_wp2_with (go_at_call 11; refine (cfFail a.a B b F S _ n HF2.out HOK.out HN.out).mono ?_; rintro e w3 ⟨S3, rfl, hf3, hc3⟩; have HF3 := Lib.hid hf3; have HC3 := Lib.hid hc3; clear hf3 hc3)
          go_ret2
          rw [HA.out]
          exact ⟨_, S3, rfl, OwnI.nil _ _, HF3.out, (Chg.of_below HB.out).trans HC3.out, fun k hk => by simp [Value.ownBlock] at hk⟩
        · skip
          by_cases k8 : kd = 8
          · have HA := Lib.hid (show P52.act F a = ((P52.free F a.a).1, 0, (P52.free F a.a).2) from by unfold P52.act; rw [if_neg (by rw [hkd]; exact k4), if_neg (by rw [hkd]; exact k5), if_neg (by rw [hkd]; exact k6), if_neg (by rw [hkd]; exact k7), if_pos (by rw [hkd]; exact k8)])
            have b4 : (a.kind.tmod 11 == 4) = false := by rw [hkd]; exact beq_not k4
            have b5 : (a.kind.tmod 11 == 5) = false := by rw [hkd]; exact beq_not k5
            have b6 : (a.kind.tmod 11 == 6) = false := by rw [hkd]; exact beq_not k6
            have b7 : (a.kind.tmod 11 == 7) = false := by rw [hkd]; exact beq_not k7
            have b8 : (a.kind.tmod 11 == 8) = true := by rw [hkd]; exact beq_of k8
            clear hkd k4 k5 k6 k7 k8
            unfold av
            go_enter Tryz.func9, Tryz.ntmps9
            go_upto_region 1 with (fail)
            obtain ⟨w2, g, e1, e2, hb, h1⟩ := boxes1 w 32 (aa a)
            unfold aa at e1
            rw [e1, e2]
            obtain ⟨a0, a1, a2, a3, a4, a5, a6, a7, a8⟩ := acells h1
            have HB := Lib.hid hb
            have HF2 := Lib.hid (HF.out.below hb)
            have HR := Lib.hid (show ∀ j u, (la a.l)[j]? = some u → w2.cell? ((⟨g, 3, none⟩ : Addr).add j) = some u from fun j u hj => h1.addFrom 3 j u (by simpa [aa, la] using hj))
            clear e1 e2 hb h1
            go_wp2_with (go_at_call 12; refine (cfFree a.a B b F S _ n HF2.out HOK.out HN.out).mono ?_; rintro e w3 ⟨v, S3, rfl, ho, hf3, hc3, hn3⟩; have HO := Lib.hid ho; have HF3 := Lib.hid hf3; have HC3 := Lib.hid hc3; have HN3 := Lib.hid hn3; clear ho hf3 hc3 hn3)
            go_ret2
            rw [HA.out]
            exact ⟨_, S3, rfl, HO.out.base HB.out.size, HF3.out, (Chg.of_below HB.out).trans HC3.out, HN3.out⟩
          · skip
            by_cases k9 : kd = 9
            · have HA := Lib.hid (show P52.act F a = (P52.lose F, 0, []) from by unfold P52.act; rw [if_neg (by rw [hkd]; exact k4), if_neg (by rw [hkd]; exact k5), if_neg (by rw [hkd]; exact k6), if_neg (by rw [hkd]; exact k7), if_neg (by rw [hkd]; exact k8), if_pos (by rw [hkd]; exact k9)])
              have b4 : (a.kind.tmod 11 == 4) = false := by rw [hkd]; exact beq_not k4
              have b5 : (a.kind.tmod 11 == 5) = false := by rw [hkd]; exact beq_not k5
              have b6 : (a.kind.tmod 11 == 6) = false := by rw [hkd]; exact beq_not k6
              have b7 : (a.kind.tmod 11 == 7) = false := by rw [hkd]; exact beq_not k7
              have b8 : (a.kind.tmod 11 == 8) = false := by rw [hkd]; exact beq_not k8
              have b9 : (a.kind.tmod 11 == 9) = true := by rw [hkd]; exact beq_of k9
              clear hkd k4 k5 k6 k7 k8 k9
              unfold av
              go_enter Tryz.func9, Tryz.ntmps9
              go_upto_region 1 with (fail)
              obtain ⟨w2, g, e1, e2, hb, h1⟩ := boxes1 w 32 (aa a)
              unfold aa at e1
              rw [e1, e2]
              obtain ⟨a0, a1, a2, a3, a4, a5, a6, a7, a8⟩ := acells h1
              have HB := Lib.hid hb
              have HF2 := Lib.hid (HF.out.below hb)
              have HR := Lib.hid (show ∀ j u, (la a.l)[j]? = some u → w2.cell? ((⟨g, 3, none⟩ : Addr).add j) = some u from fun j u hj => h1.addFrom 3 j u (by simpa [aa, la] using hj))
              clear e1 e2 hb h1
              go_wp2_with (go_at_call 21; refine (cfLose B b F S _ HF2.out).mono ?_; rintro e w3 ⟨S3, rfl, hf3, hc3⟩; have HF3 := Lib.hid hf3; have HC3 := Lib.hid hc3; clear hf3 hc3)
              go_ret2
              rw [HA.out]
              exact ⟨_, S3, rfl, OwnI.nil _ _, HF3.out, (Chg.of_below HB.out).trans HC3.out, fun k hk => by simp [Value.ownBlock] at hk⟩
            · skip
              by_cases k10 : kd = 10
              · have HA := Lib.hid (show P52.act F a = ((P52.rebuild F (P52.exportsL F)).1, (P52.rebuild F (P52.exportsL F)).2, []) from by unfold P52.act; rw [if_neg (by rw [hkd]; exact k4), if_neg (by rw [hkd]; exact k5), if_neg (by rw [hkd]; exact k6), if_neg (by rw [hkd]; exact k7), if_neg (by rw [hkd]; exact k8), if_neg (by rw [hkd]; exact k9), if_pos (by rw [hkd]; exact k10)])
                have b4 : (a.kind.tmod 11 == 4) = false := by rw [hkd]; exact beq_not k4
                have b5 : (a.kind.tmod 11 == 5) = false := by rw [hkd]; exact beq_not k5
                have b6 : (a.kind.tmod 11 == 6) = false := by rw [hkd]; exact beq_not k6
                have b7 : (a.kind.tmod 11 == 7) = false := by rw [hkd]; exact beq_not k7
                have b8 : (a.kind.tmod 11 == 8) = false := by rw [hkd]; exact beq_not k8
                have b9 : (a.kind.tmod 11 == 9) = false := by rw [hkd]; exact beq_not k9
                have b10 : (a.kind.tmod 11 == 10) = true := by rw [hkd]; exact beq_of k10
                clear hkd k4 k5 k6 k7 k8 k9 k10
                unfold av
                go_enter Tryz.func9, Tryz.ntmps9
                go_upto_region 1 with (fail)
                obtain ⟨w2, g, e1, e2, hb, h1⟩ := boxes1 w 32 (aa a)
                unfold aa at e1
                rw [e1, e2]
                obtain ⟨a0, a1, a2, a3, a4, a5, a6, a7, a8⟩ := acells h1
                have HB := Lib.hid hb
                have HF2 := Lib.hid (HF.out.below hb)
                have HR := Lib.hid (show ∀ j u, (la a.l)[j]? = some u → w2.cell? ((⟨g, 3, none⟩ : Addr).add j) = some u from fun j u hj => h1.addFrom 3 j u (by simpa [aa, la] using hj))
                clear e1 e2 hb h1
                go_wp2_with (first | (go_at_call 19; refine (cfExports B b F S _ n HF2.out HOK.out HN.out).mono ?_; rintro e w3 ⟨v3, rfl, ho3, hb3⟩; have HF3 := Lib.hid (HF2.out.below hb3); have HB3 := Lib.hid (HB.out.trans (hb3.mono HB.out.size)); have hcp := ho3.len_cap; obtain ⟨A3, c3, rfl, hs3, -⟩ := ho3.cells; have HS3 := Lib.hid hs3; have HCP := Lib.hid (hcp _ _ _ rfl); clear ho3 hb3 hs3 hcp) | (go_at_call 20; refine (cfRebuild A3 _ c3 (P52.exportsL F) B b F S w3 HF3.out HS3.out (by have h1 := P52.exportsL_len F; have h2 := HOK.out.len; have h3 := HN.out; omega) HCP.out (fun l hl => InR.num (valid_num (HOK.out.valids.1 l (exports_held hl))))).mono ?_; rintro e w4 ⟨S4, rfl, hf4, hc4⟩; have HF4 := Lib.hid hf4; have HC4 := Lib.hid hc4; clear hf4 hc4))
                go_ret2
                rw [HA.out]
                exact ⟨_, S4, rfl, OwnI.nil _ _, HF4.out, (Chg.of_below HB3.out).trans HC4.out, fun k hk => by simp [Value.ownBlock] at hk⟩
              · skip
                have HA := Lib.hid (show P52.act F a = ((P52.request F a.l).1, (P52.request F a.l).2, []) from by unfold P52.act; rw [if_neg (by rw [hkd]; exact k4), if_neg (by rw [hkd]; exact k5), if_neg (by rw [hkd]; exact k6), if_neg (by rw [hkd]; exact k7), if_neg (by rw [hkd]; exact k8), if_neg (by rw [hkd]; exact k9), if_neg (by rw [hkd]; exact k10)])
                have b4 : (a.kind.tmod 11 == 4) = false := by rw [hkd]; exact beq_not k4
                have b5 : (a.kind.tmod 11 == 5) = false := by rw [hkd]; exact beq_not k5
                have b6 : (a.kind.tmod 11 == 6) = false := by rw [hkd]; exact beq_not k6
                have b7 : (a.kind.tmod 11 == 7) = false := by rw [hkd]; exact beq_not k7
                have b8 : (a.kind.tmod 11 == 8) = false := by rw [hkd]; exact beq_not k8
                have b9 : (a.kind.tmod 11 == 9) = false := by rw [hkd]; exact beq_not k9
                have b10 : (a.kind.tmod 11 == 10) = false := by rw [hkd]; exact beq_not k10
                clear hkd k4 k5 k6 k7 k8 k9 k10
                unfold av
                go_enter Tryz.func9, Tryz.ntmps9
                go_upto_region 1 with (fail)
                obtain ⟨w2, g, e1, e2, hb, h1⟩ := boxes1 w 32 (aa a)
                unfold aa at e1
                rw [e1, e2]
                obtain ⟨a0, a1, a2, a3, a4, a5, a6, a7, a8⟩ := acells h1
                have HB := Lib.hid hb
                have HF2 := Lib.hid (HF.out.below hb)
                have HR := Lib.hid (show ∀ j u, (la a.l)[j]? = some u → w2.cell? ((⟨g, 3, none⟩ : Addr).add j) = some u from fun j u hj => h1.addFrom 3 j u (by simpa [aa, la] using hj))
                clear e1 e2 hb h1
                go_wp2_with (first | (refine wpList_load_cells rfl 30 (.tmp 54) rfl ⟨g, 3, none⟩ rfl (la a.l) _ HR.out Tryz.underlying30 rfl hlenL ?_) | (go_at_call 16; refine (cfRequest a.l HU.out B b F S _ n HF2.out HOK.out HN.out).mono ?_; rintro e w3 ⟨S3, rfl, hf3, hc3⟩; have HF3 := Lib.hid hf3; have HC3 := Lib.hid hc3; clear hf3 hc3))
                go_ret2
                rw [HA.out]
                exact ⟨_, S3, rfl, OwnI.nil _ _, HF3.out, (Chg.of_below HB.out).trans HC3.out, fun k hk => by simp [Value.ownBlock] at hk⟩
end Go.Proofs.YtjklhiifjnmedaaGreat
