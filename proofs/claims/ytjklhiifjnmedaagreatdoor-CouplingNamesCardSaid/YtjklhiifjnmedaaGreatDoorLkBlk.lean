/- blockers: the units for which a lock waits, as a set. -/
import Derived.Test.YtjklhiifjnmedaaGreatDoorLkHeld
import Derived.Test.YtjklhiifjnmedaaGreatDoorSet
import Derived.Maps.OwnSet
namespace Go.Proofs.YtjklhiifjnmedaaGreatDoor
open Go.RowKit P16 P46
attribute [local go_sem] ByteArray.mk_append_mk ByteArray.extract_mk mk_index

def inL (l : List Int) (a : Int) : Bool := decide (a ∈ l)
theorem inL_nil : inL [] = fun _ => false := by funext y; simp [inL]
theorem inL_snoc (l : List Int) (u : Int) : inL (l ++ [u]) = fun y => inL l y || decide (y = u) := by
  funext y
  simp [inL]
theorem lit_num {u : Int} (h : numB u = true) : (Lit.int .i64 u).wf = true := by
  unfold numB at h
  simp at h
  have e1 : IntKind.i64.min = -9223372036854775808 := by decide
  have e2 : IntKind.i64.max = 9223372036854775807 := by decide
  simp [Lit.wf]
  omega
theorem valid_num {l : Lock} (h : validL l = true) : numB l.unit = true := by
  unfold validL at h
  simp at h
  exact h.1.1.1.1
def cf1 (x : Lock) (ls : List Lock) : List Int := (ls.filter fun y => conflict y x).map (·.unit)
def cf2 (o : List Lock) (x : Lock) (ls : List Lock) : List Int := (ls.filter (waitsOn o x)).map (·.unit)
theorem blks_cf (h pre : List Lock) (x : Lock) : blks h pre x = cf1 x h ++ cf2 (own h x.unit) x pre := rfl
theorem cf1_take {x : Lock} {ls : List Lock} {k : Nat} {l : Lock} (h : ls[k]? = some l) : cf1 x (ls.take (k + 1)) = if conflict l x = true then cf1 x (ls.take k) ++ [l.unit] else cf1 x (ls.take k) := by
  unfold cf1
  rw [take_snoc h, List.filter_append]
  by_cases e : conflict l x = true <;> simp [e]
theorem cf2_take {o : List Lock} {x : Lock} {ls : List Lock} {k : Nat} {l : Lock} (h : ls[k]? = some l) : cf2 o x (ls.take (k + 1)) = if waitsOn o x l = true then cf2 o x (ls.take k) ++ [l.unit] else cf2 o x (ls.take k) := by
  unfold cf2
  rw [take_snoc h, List.filter_append]
  by_cases e : waitsOn o x l = true <;> simp [e]
/-- What holds at each round: the lock's box, the set, the unit's own locks. -/
structure BInv (w wr : World) (g bm s : Nat) (x : Lock) (k : Nat) (S : Int → Bool) (vo : Value) (o : List Lock) : Prop where
  box : Blk wr g 46 (la x)
  set : SetM wr Tryz.prog 3 4 bm k S
  own : OwnL wr s 46 vo o
  below : Below w.heap.size w wr
section
variable {w wr w' : World} {g bm s : Nat} {x : Lock} {k : Nat} {S : Int → Bool} {vo : Value} {o : List Lock}
theorem BInv.next (h : BInv w wr g bm s x k S vo o) (hb : Below wr.heap.size wr w') : BInv w w' g bm s x k S vo o := ⟨h.box.below hb, h.set.below hb, h.own.below hb, h.below.trans (hb.mono h.below.size)⟩
theorem BInv.mono (h : BInv w wr g bm s x k S vo o) {m : Nat} (hm : k ≤ m) : BInv w wr g bm s x m S vo o := ⟨h.box, h.set.mono hm, h.own, h.below⟩
theorem BInv.add (h : BInv w wr g bm s x k S vo o) {m : Nat} {T : Int → Bool} (hs : SetM w' Tryz.prog 3 4 bm m T) (hg : wr.grownBy w' (some bm)) (h1 : g < bm) (h2 : bm < s) (h3 : w.heap.size ≤ bm) : BInv w w' g bm s x m T vo o :=
  ⟨h.box.grown hg (by simp; omega), hs, h.own.kept hg (by
    rcases he : vo.ownBlock with _ | y
    · exact .inl rfl
    · have := (h.own.lt y he).1
      exact .inr (by simp; omega)), h.below.grown hg h.below.size (fun y hy => by cases hy; exact h3)⟩
end
theorem madeSet (w : World) : ∃ (w2 : World) (b : Nat), w.alloc (.map #[] 0) = w2 ∧ w.heap.size = b ∧ Below w.heap.size w w2 ∧ SetM w2 Tryz.prog 3 4 b 0 (inL []) ∧ w2.heap.size = b + 1 := by
  refine ⟨_, _, rfl, rfl, below_alloc (Below.refl _ _) _, ?_, by simp⟩
  rw [inL_nil]
  exact SetM.made _ _ _ _

set_option maxRecDepth 100000 in
set_option maxHeartbeats 4000000 in
theorem lkBlockers (x : Lock) (A : Option Addr) (n c : Nat) (pre : List Lock) (B p : Nat) (h q : List Lock) (vh vq : Value) (w : World) (m : Mgr w B p h q vh vq) (hh : h.length ≤ 1000000) (ha : LocksAt w A n pre) (hn : n ≤ 1000000)
    (hvh : ∀ l ∈ h, validL l = true) (hvp : ∀ l ∈ pre, validL l = true) :
    Calls Tryz.prog 77 #[.pointer (some ⟨p, 0, none⟩), lv x, .slice A n c] w fun e w' => ∃ b k, e = .returned (.map (some b)) ∧ SetM w' Tryz.prog 3 4 b k (inL (blks h pre x)) ∧ k ≤ h.length + n ∧ Below w.heap.size w w' ∧ w.heap.size ≤ b := by
  obtain ⟨A1, c1, rfl, hs, -⟩ := m.held.cells
  obtain ⟨n1, hn1⟩ : ∃ n1, h.length = n1 := ⟨_, rfl⟩
  rw [hn1] at hs
  have HN1 := Lib.hid hn1
  have hn1' : n1 ≤ 1000000 := by omega
  have HH := Lib.hid hs
  have HA := Lib.hid ha
  have HM := Lib.hid m
  have HVH := Lib.hid hvh
  have HVP := Lib.hid hvp
  have HHH := Lib.hid hh
  clear m hs hh hn1 ha hvh hvp
  have hlenL : (Tryz.prog.info? 46).map (·.size) = some 6 := by kernel_rfl
  have hmm := @run_makeMap Tryz.prog
  unfold lv
  go_enter Tryz.func77, Tryz.ntmps77
  go_upto_region 1 with (fail)
  obtain ⟨w1, g, e1, e2, hb1, h1⟩ := boxes1 w 46 (la x)
  unfold la at e1
  rw [e1, e2]
  have hgw : w.heap.size ≤ g := by omega
  have hg1 : g < w1.heap.size := h1.lt
  clear e1 e2
  go_upto_region 2 with (fail)
  obtain ⟨w2, bm, e1, e2, hb2, h2, hz2⟩ := madeSet w1
  rw [e1, e2]
  have hbm : g < bm := by omega
  have hx2 := h1.below hb2
  obtain ⟨a0, -, -, -, -, -⟩ := lcells hx2
  have HB2 := Lib.hid (below_then hb1 hb2)
  have HX2 := Lib.hid hx2
  have HS2 := Lib.hid h2
  have HZ2 := Lib.hid hz2
  clear e1 e2 hb1 hb2 h1 h2 hx2 hz2
  go_wp2_with fail
  refine (lkHeld x.unit B p h q _ vq _ (HM.out.below HB2.out) HHH.out).mono ?_
  rintro e w3 ⟨vo, rfl, hown, hb3⟩
  have HI := Lib.hid (show BInv w w3 g bm w2.heap.size x 0 (inL (cf1 x (h.take 0))) vo (own h x.unit) from ⟨HX2.out.below hb3, HS2.out.below hb3, hown, below_then HB2.out hb3⟩)
  have hc := (HM.out.below HI.out.below).box.cell 0
  have hsz2 : w2.heap.size = bm + 1 := HZ2.out
  simp [HN1.out] at hc
  clear hown hb3 a0
  go_upto_region 4 with (fail)
  go_loopw [23] (fun i wr => ∃ k : Nat, k ≤ n1 ∧ i = .int .i64 k ∧ BInv w wr g bm w2.heap.size x k (inL (cf1 x (h.take k))) vo (own h x.unit)) (fun i _ => n1 - (intOf i).toNat)
  case atStart => exact ⟨0, Nat.zero_le _, rfl, HI.out⟩
  case round =>
    obtain ⟨k, hk, rfl, hin⟩ := hrel
    have HIN := Lib.hid hin
    clear hin hc
    by_cases hlt : k < n1
    · have hs := HH.out.below HIN.out.below
      obtain ⟨b, off, l, rfl, hl, -⟩ := hs.at_ hlt
      have HR := Lib.hid (hs.row hl)
      have HF := Lib.hid (cf1_take (x := x) hl)
      have HU := Lib.hid (lit_num (valid_num (HVH.out l (List.mem_of_getElem? hl))))
      clear hs hl
      go_upto_region 6 with (refine wpList_load_cells rfl 46 (.tmp 25) rfl ⟨b, off + k * 6, none⟩ rfl _ _ HR.out Tryz.underlying46 rfl hlenL ?_)
      obtain ⟨w4, g4, e1, e2, hb4, h4⟩ := boxes1 wr 46 (la l)
      unfold la at e1
      rw [e1, e2]
      have HIN4 := Lib.hid (HIN.out.next hb4)
      have HL := Lib.hid h4.add
      have HX := Lib.hid HIN4.out.box.add
      have HB4 := Lib.hid h4
      clear e1 e2 hb4 h4
      go_wp2_with (first | (refine wpList_load_cells rfl 46 (.tmp 10) rfl ⟨g4, 0, none⟩ rfl _ _ HL.out Tryz.underlying46 rfl hlenL ?_) | (refine wpList_load_cells rfl 46 (.tmp 4) rfl ⟨g, 0, none⟩ rfl _ _ HX.out Tryz.underlying46 rfl hlenL ?_))
      refine (lkConflict l x _).mono ?_
      rintro e w5 ⟨rfl, hb5⟩
      have HIN5 := Lib.hid (HIN4.out.next hb5)
      obtain ⟨b0, -, -, -, -, -⟩ := lcells (HB4.out.below hb5)
      clear hb5
      cases hcf : conflict l x with
      | true =>
        have HC := Lib.hid hcf
        clear hcf
        go_wp2_with (refine wpList_set_add rfl (.tmp 30) (.tmp 32) _ _ rfl Tryz.underlying113 Tryz.underlying3 Tryz.underlying4 rfl HIN5.out.set (by unfold maxLen; omega) l.unit HU.out rfl rfl ?_; intro w6 hs6 hg6)
        go_roundw
        case rel =>
          refine ⟨k + 1, by omega, by go_num, ?_⟩
          rw [HF.out, if_pos HC.out, inL_snoc]
          exact HIN5.out.add hs6 hg6 hbm (by omega) (by omega)
        case measure => simp [intOf]; omega
      | false =>
        have HC := Lib.hid hcf
        clear hcf
        go_wp2
        go_roundw
        case rel =>
          refine ⟨k + 1, by omega, by go_num, ?_⟩
          rw [HF.out, if_neg (by rw [HC.out]; simp)]
          exact HIN5.out.mono (Nat.le_succ _)
        case measure => simp [intOf]; omega
    · have hkn : k = n1 := by omega
      subst hkn
      have HI2 := Lib.hid (show BInv w wr g bm w2.heap.size x k (inL (cf1 x h ++ cf2 (own h x.unit) x (pre.take 0))) vo (own h x.unit) from by
        have := HIN.out
        rw [List.take_of_length_le (by rw [HN1.out]; exact Nat.le_refl _)] at this
        simpa [cf2] using this)
      clear HIN HI
      obtain ⟨A3, c3, rfl, -, hno⟩ := HI2.out.own.cells
      obtain ⟨n3, hn3⟩ : ∃ n3, (own h x.unit).length = n3 := ⟨_, rfl⟩
      rw [hn3] at HI2 hno ⊢
      have HN3 := Lib.hid hn3
      have hn3' : n3 ≤ 1000000 := by
        have := List.length_filter_le (fun l => decide (l.unit = x.unit)) h
        have h2 := HHH.out
        unfold own at hn3
        omega
      clear hn3 hno
      go_upto_region 10 with (fail)
      go_loopw [36] (fun i wr => ∃ j : Nat, j ≤ n ∧ i = .int .i64 j ∧ BInv w wr g bm w2.heap.size x (k + j) (inL (cf1 x h ++ cf2 (own h x.unit) x (pre.take j))) (.slice A3 n3 c3) (own h x.unit)) (fun i _ => n - (intOf i).toNat)
      case atStart => exact ⟨0, Nat.zero_le _, rfl, HI2.out⟩
      case round =>
        obtain ⟨j, hj, rfl, hin⟩ := hrel
        have HIN := Lib.hid hin
        clear hin
        by_cases hlt2 : j < n
        · have hs := HA.out.below HIN.out.below
          obtain ⟨b, off, l, rfl, hl, -⟩ := hs.at_ hlt2
          have HR := Lib.hid (hs.row hl)
          have HF := Lib.hid (cf2_take (o := own h x.unit) (x := x) hl)
          have HU := Lib.hid (lit_num (valid_num (HVP.out l (List.mem_of_getElem? hl))))
          clear hs hl
          go_upto_region 12 with (refine wpList_load_cells rfl 46 (.tmp 38) rfl ⟨b, off + j * 6, none⟩ rfl _ _ HR.out Tryz.underlying46 rfl hlenL ?_)
          obtain ⟨w4, g4, e1, e2, hb4, h4⟩ := boxes1 wr 46 (la l)
          unfold la at e1
          rw [e1, e2]
          have HIN4 := Lib.hid (HIN.out.next hb4)
          have HL := Lib.hid h4.add
          have HX := Lib.hid HIN4.out.box.add
          have HB4 := Lib.hid h4
          clear e1 e2 hb4 h4
          go_wp2_with (first | (refine wpList_load_cells rfl 46 (.tmp 12) rfl ⟨g4, 0, none⟩ rfl _ _ HL.out Tryz.underlying46 rfl hlenL ?_) | (refine wpList_load_cells rfl 46 (.tmp 4) rfl ⟨g, 0, none⟩ rfl _ _ HX.out Tryz.underlying46 rfl hlenL ?_))
          refine (lkConflict l x _).mono ?_
          rintro e w5 ⟨rfl, hb5⟩
          have HIN5 := Lib.hid (HIN4.out.next hb5)
          have HB5 := Lib.hid (HB4.out.below hb5)
          obtain ⟨a0, a1, a2, a3, a4, a5⟩ := lcells HB5.out
          clear hb5
          cases hcf : conflict l x with
          | true =>
            have HC := Lib.hid hcf
            clear hcf
            have HLS : Hid (LocksAt w5 A3 n3 (own h x.unit)) := Lib.hid (by
              obtain ⟨A9, c9, he, hq9, -⟩ := HIN5.out.own.cells
              rw [HN3.out] at he hq9
              cases he
              exact hq9)
            go_wp2_with fail
            refine (lkConflicts l _ _ _ _ _ HLS.out hn3').mono ?_
            rintro e w6 ⟨rfl, hb6⟩
            have HIN6 := Lib.hid (HIN5.out.next hb6)
            clear a0 a1 a2 a3 a4 a5
            obtain ⟨b0, -, -, -, -, -⟩ := lcells (HB5.out.below hb6)
            clear hb6
            cases hoc : (own h x.unit).any fun y => conflict y l with
            | false =>
              have HC2 := Lib.hid (show waitsOn (own h x.unit) x l = true from by unfold waitsOn; rw [HC.out, hoc]; rfl)
              clear hoc
              go_wp2_with (refine wpList_set_add rfl (.tmp 49) (.tmp 51) _ _ rfl Tryz.underlying113 Tryz.underlying3 Tryz.underlying4 rfl HIN6.out.set (by unfold maxLen; omega) l.unit HU.out rfl rfl ?_; intro w7 hs7 hg7)
              go_roundw
              case rel =>
                refine ⟨j + 1, by omega, by go_num, ?_⟩
                rw [HF.out, if_pos HC2.out, ← List.append_assoc, inL_snoc]
                exact HIN6.out.add hs7 hg7 hbm (by omega) (by omega)
              case measure => simp [intOf]; omega
            | true =>
              have HC2 := Lib.hid (show waitsOn (own h x.unit) x l = false from by unfold waitsOn; rw [HC.out, hoc]; rfl)
              clear hoc
              go_wp2
              go_roundw
              case rel =>
                refine ⟨j + 1, by omega, by go_num, ?_⟩
                rw [HF.out, if_neg (by rw [HC2.out]; simp)]
                exact HIN6.out.mono (Nat.le_succ _)
              case measure => simp [intOf]; omega
          | false =>
            have HC := Lib.hid (show waitsOn (own h x.unit) x l = false from by unfold waitsOn; rw [hcf]; rfl)
            clear hcf
            go_wp2
            go_roundw
            case rel =>
              refine ⟨j + 1, by omega, by go_num, ?_⟩
              rw [HF.out, if_neg (by rw [HC.out]; simp)]
              exact HIN5.out.mono (Nat.le_succ _)
            case measure => simp [intOf]; omega
        · have hjn : j = n := by omega
          subst hjn
          have HE := Lib.hid (show pre.take j = pre from List.take_of_length_le (by rw [HA.out.len]; exact Nat.le_refl _))
          go_wp2
          go_ret
          have hf := HIN.out
          rw [HE.out] at hf
          exact ⟨bm, k + j, rfl, hf.set, by rw [HN1.out]; exact Nat.le_refl _, hf.below, by omega⟩
end Go.Proofs.YtjklhiifjnmedaaGreatDoor
