/- find: where an owner stands in a list; the closures that ask for an owner. conflict: whether two claims conflict. blocked: the claims that conflict with one, holders and those that wait before it, yielded one after the other. blocked: the sequence's value and its contract; free: whether it yields nothing. The table in memory: its box, two rows of claims, a map for each claim; what an operation leaves untouched. A table of which a row has been written anew; a row of numbers of the call's own. Plain theorems. Waiting: the owners that wait. -/
import Derived.Test.YtjklhiifjnmedaaGreatDoorNmG
import Derived.Test.YtjklhiifjnmedaaGreatDoorNmE
import Derived.RangeFuncNested
import Derived.RangeFuncBound
import Derived.RangeFuncCalls
import Derived.RangeFuncLeaves
import Derived.RangeFuncFrom
import Derived.Shelf.Abstract
import Derived.Shelf.RegionOpen
import Derived.WalkKit
import Derived.OwnWalkIn
import Derived.TacticsInMore
import Derived.LoopNIn
import Derived.LoopIn
import Derived.Test.YtjklhiifjnmedaaGreatDoorNmA
import Derived.Test.YtjklhiifjnmedaaGreatDoorMgr
import Derived.Test.YtjklhiifjnmedaaGreatDoorLkPut
namespace Go.Proofs.YtjklhiifjnmedaaGreatDoor
open Go.RowKit P43
attribute [local go_sem] ByteArray.mk_append_mk ByteArray.extract_mk mk_index

set_option maxRecDepth 100000 in
set_option maxHeartbeats 1000000 in
theorem clFindAsk (b : Nat) (u : Int) (w : World) (hx : Blk w b 3 #[.int .i64 u]) : AsksT 52 b (fun l => decide (l.1.id = u)) w := by
  refine ⟨fun args W => by kernel_rfl, fun l W hW => ?_⟩
  have HX := Lib.hid (hx.below hW)
  clear hx hW
  unfold cv
  go_enter Tryz.func52, Tryz.ntmps52
  go_upto_region 1 with (fail)
  obtain ⟨w2, p, e1, e2, hb, h1⟩ := boxes1 W 61 (ca l)
  unfold ca at e1
  rw [e1, e2]
  have hc := (HX.out.below hb).cell 0
  have hc2 := h1.cell 0
  have HB := Lib.hid hb
  clear e1 e2 hb h1
  simp [ca] at hc hc2
  go_wp2
  go_ret
  exact ⟨retBool (by rw [Bool.eq_iff_iff]; simp), HB.out⟩
set_option maxRecDepth 100000 in
set_option maxHeartbeats 1000000 in
theorem clFind (u : Int) (A : Option Addr) (n c : Nat) (ls : List Cm) (w : World) (h : ClsAt w A n ls) (hn : n ≤ 1000000) :
    Calls Tryz.prog 25 #[.slice A n c, .int .i64 u] w fun e w' => e = .returned (.int .i64 (fIdxT (fun l => decide (l.1.id = u)) ls)) ∧ Below w.heap.size w w' := by
  have hmf : ∀ (fn : Fn) (first cap : Array Value) (w : World), (Instr.makeFunc fn first cap).run Tryz.prog w = .ok (.func fn first cap) w := fun _ _ _ _ => rfl
  have HS := Lib.hid h
  clear h
  go_enter Tryz.func25, Tryz.ntmps25
  go_upto_region 1 with (fail)
  obtain ⟨w2, g, e1, e2, hb, h1⟩ := boxes1 w 3 #[.int .i64 u]
  rw [e1, e2]
  have HA := Lib.hid (clFindAsk g u w2 h1)
  have HB := Lib.hid hb
  have HW := Lib.hid (HS.out.below hb)
  clear e1 e2 hb h1
  go_wp2_with (go_at_call 51; refine (clIndexFunc _ _ _ _ _ _ _ _ HW.out hn HA.out).mono ?_; rintro e w' ⟨rfl, hb2⟩)
  go_ret
  exact ⟨rfl, below_then HB.out hb2⟩
end Go.Proofs.YtjklhiifjnmedaaGreatDoor
namespace Go.Proofs.YtjklhiifjnmedaaGreatDoor
open Go.RowKit P43
attribute [local go_sem] ByteArray.mk_append_mk ByteArray.extract_mk mk_index

/-- What a claim's map says of a name. -/
def lk (ns : List (Nm × Bool)) (s : Nm) : Option Bool := (ns.find? fun p => decide (p.1 = s)).map (·.2)
theorem lk_mem {ns : List (Nm × Bool)} {s : Nm} {x : Bool} (h : lk ns s = some x) : (s, x) ∈ ns := by
  unfold lk at h
  rw [Option.map_eq_some_iff] at h
  obtain ⟨⟨a, b⟩, h1, h2⟩ := h
  have h3 := List.mem_of_find?_eq_some h1
  have h4 := List.find?_some h1
  simp only [decide_eq_true_eq] at h4
  simp only at h2
  rw [← h4, ← h2]
  exact h3
/-- The names are different. -/
def Keys (ns : List (Nm × Bool)) : Prop := (ns.map (·.1)).Nodup
theorem lk_of {ns : List (Nm × Bool)} (hk : Keys ns) {s : Nm} {x : Bool} (h : (s, x) ∈ ns) : lk ns s = some x := by
  induction ns with
  | nil => cases h
  | cons p ns ih =>
    have hk2 := List.nodup_cons.1 (show (p.1 :: ns.map (·.1)).Nodup from hk)
    unfold lk
    rcases List.mem_cons.1 h with rfl | h
    · simp
    · have hne : p.1 ≠ s := fun e => hk2.1 (List.mem_map.2 ⟨(s, x), h, e.symm⟩)
      rw [List.find?_cons_of_neg (by simpa using hne)]
      exact ih hk2.2 h
theorem lk_some {ns : List (Nm × Bool)} (hk : Keys ns) {s : Nm} {x : Bool} : lk ns s = some x ↔ (s, x) ∈ ns := ⟨lk_mem, lk_of hk⟩
theorem conf_lk {a b : Cl} (ha : Keys a.ns) (hb : Keys b.ns) : conf a b = true ↔ ∃ s x y, lk a.ns s = some x ∧ lk b.ns s = some y ∧ (x || y) = true := by
  rw [conf_iff]
  constructor
  · rintro ⟨⟨s, x⟩, hp, ⟨s', y⟩, hq, h1, h2⟩
    simp only at h1 h2
    subst h1
    exact ⟨s, x, y, lk_of ha hp, lk_of hb hq, h2⟩
  · rintro ⟨s, x, y, h1, h2, h3⟩
    exact ⟨(s, x), lk_mem h1, (s, y), lk_mem h2, rfl, h3⟩
/-- The claim's map in memory. -/
def NsAt (w : World) (m : Cm) : Prop := NMap w Tryz.prog 9 4 m.2 1000 (lk m.1.ns) ∧ Keys m.1.ns
theorem NsAt.below {w w' : World} {m : Cm} (h : NsAt w m) (hb : Below w.heap.size w w') : NsAt w' m := ⟨h.1.below hb, h.2⟩
set_option maxRecDepth 100000 in
set_option maxHeartbeats 2000000 in
theorem clConflict (a b : Cm) (w : World) (ha : NsAt w a) (hb : NsAt w b) :
    Calls Tryz.prog 54 #[cv a, cv b] w fun e w' => e = .returned (.bool (conf a.1 b.1)) ∧ Below w.heap.size w w' := by
  have HA := Lib.hid ha
  have HB := Lib.hid hb
  have hz : ∀ w, (zeroValue 4).run Tryz.prog w = .ok (.bool false) w := fun w => by kernel_rfl
  clear ha hb
  unfold cv
  go_enter Tryz.func54, Tryz.ntmps54
  go_upto_region 1 with (fail)
  obtain ⟨w2, p, q, e1, e2, e3, hb2, h1, h2⟩ := boxes2 w 61 (ca a) (ca b)
  unfold ca at e1
  rw [e1, e3, e2]
  have HA2 := Lib.hid (HA.out.below hb2)
  have HB2 := Lib.hid (HB.out.below hb2)
  have HL := Lib.hid hb2
  have HP := Lib.hid h1
  have HQ := Lib.hid h2
  have hc1 := h1.cell 1
  simp [ca] at hc1
  clear e1 e2 e3 hb2 h1 h2
  go_wp2_with (refine wpList_nm_range rfl (.tmp 10) _ rfl Tryz.underlying59 Tryz.underlying9 rfl HA2.out.1 ?_; intro w3 cnt hr3 hg3 hs3; have HR3 := Lib.hid hr3; have HG3 := Lib.hid hg3; clear hr3 hg3)
  obtain ⟨r, hr⟩ : ∃ r, w2.heap.size = r := ⟨_, rfl⟩
  rw [hr] at HR3 ⊢
  have HRE := Lib.hid hr
  have HB3 := Lib.hid (show Below w2.heap.size w2 w3 from ⟨HG3.out.os, HG3.out.tape, HG3.out.output, HG3.out.size, fun k hk => HG3.out.block k hk (by simp)⟩)
  clear hr hc1
  simp only [Act.put, List.setIfInBounds_toArray, List.set_cons_succ, List.set_cons_zero]
  go_loopw [5] (fun _ wr => ∃ left cnt, NMapR wr Tryz.prog 9 4 a.2 r 1000 (lk a.1.ns) left cnt ∧ Below w2.heap.size w2 wr ∧ Hid (∀ s x y, left s = false → lk a.1.ns s = some x → lk b.1.ns s = some y → (x || y) = false)) (fun _ wr => wr.rangeLeft a.2 r)
  case atStart => exact ⟨_, _, HR3.out, HB3.out, fun s x y h h1 _ => by simp [h1] at h⟩
  case round =>
    obtain ⟨left, cnt, hrn, hbw, hno⟩ := hrel
    have HRN := Lib.hid hrn
    have HBW := Lib.hid hbw
    clear hrn hbw
    go_wp2_with (first | (refine wpList_nm_ok rfl (.tmp 19) (.tmp 20) _ rfl Tryz.underlying59 Tryz.underlying9 Tryz.underlying4 (hz _) rfl (HB2.out.1.below HB5.out) s HLEN.out rfl ?_; rcases hlb : lk b.1.ns s with _ | (_ | _) <;> cases x <;> have HLB := Lib.hid hlb <;> clear hlb <;> simp only [Option.getD_none, Option.getD_some, Option.isSome_none, Option.isSome_some]) | (at_next; refine wpList_nm_next rfl (.tmp 11) rfl Tryz.underlying9 Tryz.underlying4 rfl HRN.out ?_ ?_; intro hdone; have HD := Lib.hid hdone; clear hdone; rotate_left 1; intro s x w5 cnt5 hlen hls hms hr5 hc5 hg5 hz5 hen; have HR5 := Lib.hid hr5; have HLS := Lib.hid hls; have HMS := Lib.hid hms; have HLEN := Lib.hid hlen; have HC5 := Lib.hid hc5; have HB5 := Lib.hid (HBW.out.trans (show Below w2.heap.size _ w5 from ⟨hg5.os, hg5.tape, hg5.output, hg5.size, fun k hk => hg5.block k (Nat.lt_of_lt_of_le hk HBW.out.size) (by have := HRE.out; simp; omega)⟩)); have hq5 := (HQ.out.below HB5.out).cell 1; simp [ca] at hq5; clear hls hms hr5 hg5 hz5 hlen hc5))
    all_goals first
      | (go_roundw
         case rel => exact ⟨_, _, HR5.out, HB5.out, fun s' x' y' h h1 h2 => by
           by_cases e : s' = s
           · subst e
             have e1 := HMS.out.symm.trans h1
             have e2 := HLB.out.symm.trans h2
             cases e1
             first | (cases e2; done) | (cases e2; rfl)
           · exact hno.out s' x' y' (by simpa [e] using h) h1 h2⟩
         case measure => rw [HR5.out.count, HRN.out.count]; exact HC5.out)
      | (go_ret
         refine ⟨retBool ((conf_lk HA.out.2 HB.out.2).2 ⟨s, _, _, HMS.out, HLB.out, rfl⟩).symm, below_then HL.out HB5.out⟩)
      | (go_ret
         have hcf : conf a.1 b.1 = false := by
           cases hc : conf a.1 b.1 with
           | false => rfl
           | true =>
             obtain ⟨s', x', y', h1, h2, h3⟩ := (conf_lk HA.out.2 HB.out.2).1 hc
             rw [hno.out s' x' y' (HD.out s') h1 h2] at h3
             cases h3
         exact ⟨retBool hcf.symm, below_then HL.out HBW.out⟩)
end Go.Proofs.YtjklhiifjnmedaaGreatDoor
namespace Go.Proofs.YtjklhiifjnmedaaGreatDoor
open Go.RowKit P43 Go.Shelf
attribute [local go_sem] Oper.semAt_some ByteArray.mk_append_mk ByteArray.extract_mk mk_index

abbrev tC : TypeId := 61
abbrev tSl : TypeId := 64
/-- What a round may not touch: claims, slices of claims, maps below B. -/
def keepT (B k : Nat) : Obj → Bool
  | .cells _ t _ => t == tC || t == tSl
  | .map .. => decide (k < B)
  | _ => false
structure KeepT (B : Nat) (W W' : World) : Prop where
  size : W.heap.size ≤ W'.heap.size
  same : ∀ (k : Nat) (o : Obj), W.heap[k]? = some o → keepT B k o = true → W'.heap[k]? = some o
theorem KeepT.refl (B : Nat) (W : World) : KeepT B W W := ⟨Nat.le_refl _, fun _ _ h _ => h⟩
theorem KeepT.trans {N : Nat} {A B C : World} (h : KeepT N A B) (k : KeepT N B C) : KeepT N A C := ⟨Nat.le_trans h.size k.size, fun j o e t => k.same j o (h.same j o e t) t⟩
theorem KeepT.of_below {B : Nat} {W W' : World} (h : Below W.heap.size W W') : KeepT B W W' := ⟨h.size, fun k _ e _ => (h.block k (Array.getElem?_eq_some_iff.1 e).1).trans e⟩
theorem KeepT.blk {B : Nat} {W W' : World} (h : KeepT B W W') {g : Nat} {t : TypeId} {cs : Array Value} (hb : Blk W g t cs) (ht : (t == tC || t == tSl) = true) : Blk W' g t cs := h.same g _ hb ht
theorem KeepT.ns {B : Nat} {W W' : World} (h : KeepT B W W') {m : Cm} (hm : NsAt W m) (hl : m.2 < B) : NsAt W' m := by
  refine ⟨?_, hm.2⟩
  obtain ⟨D, ⟨es, clock, h0, F, hs, hD⟩, h2, h3⟩ := hm.1.own
  exact ⟨D, ⟨es, clock, h.same _ _ h0 (by simpa [keepT] using hl), F, hs, hD⟩, h2, h3⟩
/-- Claims in a row of claims, and their maps. -/
structure ClsT (B : Nat) (w : World) (A : Option Addr) (n : Nat) (ms : List Cm) : Prop where
  at_ : ClsAt w A n ms
  row : ∀ b off, A = some ⟨b, off, none⟩ → ∃ cs, Blk w b tC cs
  ns : ∀ m ∈ ms, NsAt w m
  lt : ∀ m ∈ ms, m.2 < B
theorem ClsT.keep {B : Nat} {W W' : World} (h : KeepT B W W') {A : Option Addr} {n : Nat} {ms : List Cm} (c : ClsT B W A n ms) : ClsT B W' A n ms := by
  refine ⟨⟨c.at_.1, fun j u hj => ?_⟩, fun b off e => ?_, fun m hm => h.ns (c.ns m hm) (c.lt m hm), c.lt⟩
  · obtain ⟨b, off, e, h2⟩ := c.at_.2 j u hj
    obtain ⟨cs, hb⟩ := c.row b off e
    have hb' := h.blk hb rfl
    refine ⟨b, off, e, ?_⟩
    rw [hb'.cell]
    rw [hb.cell] at h2
    exact h2
  · obtain ⟨cs, hb⟩ := c.row b off e
    exact ⟨cs, h.blk hb rfl⟩
theorem ClsT.len {B : Nat} {w : World} {A : Option Addr} {n : Nat} {ms : List Cm} (c : ClsT B w A n ms) : ms.length = n := by
  have h := c.at_.1
  rw [ccs_length] at h
  omega
/-- Those of a list that conflict with one. -/
def blkC (ms : List Cm) (c : Cm) : List Cm := ms.filter fun x => conf x.1 c.1
theorem blkC_take {ms : List Cm} {k : Nat} {x : Cm} (c : Cm) (h : ms[k]? = some x) : blkC (ms.take (k + 1)) c = if conf x.1 c.1 = true then blkC (ms.take k) c ++ [x] else blkC (ms.take k) c := by
  unfold blkC
  rw [take_snoc h, List.filter_append]
  by_cases e : conf x.1 c.1 = true <;> simp [e]
theorem blkC_prefix (ms : List Cm) (k : Nat) (c : Cm) : blkC (ms.take k) c <+: blkC ms c := by
  unfold blkC
  exact (List.take_prefix k ms).filter _
set_option maxRecDepth 100000 in
set_option maxHeartbeats 4000000 in
theorem clBlocked1 (n : Nat) (hn : 1 ≤ n) (B l p1 p2 p3 n1 c1 n2 c2 : Nat) (A1 A2 : Option Addr) (c : Cm) (ms1 ms2 : List Cm) (W : World) (J Jx : List Cm → World → Prop) (hJ : AbidesFrom W.heap.size J)
    (hY : ∀ pre x W1, J pre W1 → pre.length < (blkC ms1 c ++ blkC ms2 c).length → YieldAt Fence.wide (n - 1) Tryz.prog l #[cv x] W1 fun e W' =>
      (e = .returned (.bool true) ∧ J (pre ++ [x]) W' ∧ KeepT B W1 W') ∨ (e = .returned (.bool false) ∧ Jx (pre ++ [x]) W'))
    (h1 : Blk W p1 tSl #[.slice A1 n1 c1]) (h2 : Blk W p2 tSl #[.slice A2 n2 c2]) (h3 : Blk W p3 tC (ca c)) (hc : NsAt W c) (hcB : c.2 < B) (hm1 : ClsT B W A1 n1 ms1) (hm2 : ClsT B W A2 n2 ms2) (hn1 : n1 ≤ 1000000) (hn2 : n2 ≤ 1000000) (h0 : J [] W) :
    CallsIn Fence.wide n Tryz.prog 53 #[.func (.yield l) #[] #[], .pointer (some ⟨p1, 0, none⟩), .pointer (some ⟨p2, 0, none⟩), .pointer (some ⟨p3, 0, none⟩)] W fun e W' => (∃ v, e = .returned v) ∧
      ((∃ ys, ys = blkC ms1 c ++ blkC ms2 c ∧ J ys W') ∨ (∃ pre, pre <+: blkC ms1 c ++ blkC ms2 c ∧ Jx pre W')) := by
  refine callsIn_of_wp Tryz.func53 rfl trivial ?_ rfl
  simp only [Tryz.ntmps53, List.size_toArray, List.length_cons, List.length_nil, Nat.reduceAdd, Nat.reduceSub, Array.replicate_succ, Array.replicate_zero, List.push_toArray, List.append_toArray, List.nil_append, List.cons_append]
  have hlenC : (Tryz.prog.info? tC).map (·.size) = some 2 := by kernel_rfl
  have hb1 := h1.cell 0
  have hb2 := h2.cell 0
  simp at hb1 hb2
  have HP1 := Lib.hid (h1.alloc (.cells #[.slice A1 n1 c1, .slice A2 n2 c2] tSl))
  have HP3 := Lib.hid (h3.alloc (.cells #[.slice A1 n1 c1, .slice A2 n2 c2] tSl))
  have hk0 := KeepT.of_below (B := B) (below_alloc (Below.refl _ W) (.cells #[.slice A1 n1 c1, .slice A2 n2 c2] tSl))
  have HC := Lib.hid (hk0.ns hc hcB)
  have HM1 := Lib.hid (hm1.keep hk0)
  have HM2 := Lib.hid (hm2.keep hk0)
  have HGB := Lib.hid (Blk.new W tSl #[.slice A1 n1 c1, .slice A2 n2 c2])
  have HJ := Lib.hid hJ
  have HJ1 := Lib.hid (hJ _ _ _ none h0 (World.grownBy_alloc W (.cells #[.slice A1 n1 c1, .slice A2 n2 c2] tSl) none) (fun r e => by cases e))
  have HY := Lib.hid hY
  obtain ⟨g, hg⟩ : ∃ g, W.heap.size = g := ⟨_, rfl⟩
  rw [hg] at HGB
  have HGE := Lib.hid hg
  clear h1 h2 h3 hc hm1 hm2 h0 hk0 hJ hY
  gi_wp2
  clear hg hb1 hb2
  obtain ⟨W1, hW1⟩ : ∃ W1, W.alloc (.cells #[.slice A1 n1 c1, .slice A2 n2 c2] tSl) = W1 := ⟨_, rfl⟩
  rw [hW1] at HP1 HP3 HC HM1 HM2 HGB HJ1
  rw [show W.alloc (.cells #[.slice A1 n1 c1, .slice A2 n2 c2] 64) = W1 from hW1]
  clear hW1
  gi_loopw [13] (fun i wr => ∃ k : Nat, k ≤ 2 ∧ i = .int .i64 k ∧ J (if k = 0 then [] else if k = 1 then blkC ms1 c else blkC ms1 c ++ blkC ms2 c) wr ∧ KeepT B W1 wr) (fun i _ => 2 - (intOf i).toNat)
  case atStart => exact ⟨0, by omega, rfl, HJ1.out, KeepT.refl B _⟩
  case round =>
    obtain ⟨k, hk, rfl, hjw, hkw⟩ := hrel
    by_cases hk2 : k = 2
    · subst hk2
      gi_wp2
      go_end0
      exact ⟨⟨_, rfl⟩, .inl ⟨_, rfl, hjw⟩⟩
    · by_cases hk1 : k = 0
      · obtain rfl : k = 0 := by omega
        have HWR := Lib.hid hkw
        have HG := Lib.hid (hkw.blk HGB.out rfl)
        have hg0 := HG.out.cell 0
        have hg1 := HG.out.cell 1
        simp at hg0 hg1
        have HJ0 := Lib.hid hjw
        clear hjw hkw
        obtain ⟨wo, hwo⟩ : ∃ wo : World, wo = wr := ⟨_, rfl⟩
        rw [← hwo] at HWR HG hg0 hg1 HJ0 ⊢
        clear hwo wr
        gi_wp2
        clear hg0 hg1
        gi_loopw [19] (fun i wr => ∃ j : Nat, j ≤ n1 ∧ i = .int .i64 j ∧ J ([] ++ blkC (ms1.take j) c) wr ∧ KeepT B W1 wr) (fun i _ => n1 - (intOf i).toNat)
        case atStart => exact ⟨0, Nat.zero_le _, rfl, by simpa [blkC] using HJ0.out, HWR.out⟩
        case round =>
          obtain ⟨j, hj, rfl, hjw, hkw⟩ := hrel
          have HKW := Lib.hid hkw
          have HJW := Lib.hid hjw
          clear hjw hkw
          by_cases hlt : j < n1
          · have hcl := HM1.out.keep HKW.out
            obtain ⟨b, off, x, rfl, hx, x0, x1⟩ := hcl.at_.at_ hlt
            have HX := Lib.hid hx
            have HNX := Lib.hid (hcl.ns x (List.mem_of_getElem? hx))
            have HNC := Lib.hid (HKW.out.ns HC.out hcB)
            have HPC := Lib.hid (HKW.out.blk HP3.out rfl)
            have HLT := Lib.hid hlt
            have HBT := Lib.hid (blkC_take c hx)
            have hj0 : (0 : Int) ≤ (j : Int) := by omega
            have hj1 : (j : Int) < (n1 : Int) := by omega
            clear hcl hx
            have hp := HPC.out.alloc (.cells #[.int .i64 x.1.id, .map (some x.2)] tC)
            have q0 := hp.cell 0
            have q1 := hp.cell 1
            simp [ca] at q0 q1
            clear hp
            gi_wp2
            clear q0 q1 x0 x1
            obtain ⟨w2, q, e1, e2, hb2, hq⟩ := boxes1 wr tC (ca x)
            unfold ca at e1
            rw [show wr.alloc (.cells #[.int .i64 x.1.id, .map (some x.2)] 61) = w2 from e1, e2]
            have hcall := clConflict x c w2 (HNX.out.below hb2) (HNC.out.below hb2)
            unfold cv at hcall
            refine ⟨trivial, (callsIn_wide.2 hcall).mono ?_⟩
            rintro e w3 ⟨rfl, hb3⟩
            have hb : Below wr.heap.size wr w3 := below_then hb2 hb3
            have hq3 := hq.below hb3
            have q0 := hq3.cell 0
            have q1 := hq3.cell 1
            simp [ca] at q0 q1
            have HB := Lib.hid hb
            have HJ3 := Lib.hid (HJ.out _ _ _ none HJW.out ⟨hb.os, hb.tape, hb.output, hb.size, fun k hk _ => hb.block k hk⟩ (fun r e => by cases e))
            have hkt := Lib.hid (HKW.out.trans (KeepT.of_below hb))
            clear e1 e2 hb2 hb3 hq hq3 hcall hb
            cases hcf : conf x.1 c.1
            · gi_wp2
              refine ⟨fun _ h => (by cases h), ?_⟩
              gi_wp2
              go_roundw
              case rel => exact ⟨j + 1, hlt, by simp, by rw [HBT.out, hcf]; exact HJ3.out, hkt.out⟩
              case measure => dsimp only [intOf]; omega
            · have hlen : ([] ++ blkC (ms1.take j) c).length < (blkC ms1 c ++ blkC ms2 c).length := by
                have h1 := (blkC_prefix ms1 (j + 1) c).length_le
                rw [HBT.out, if_pos hcf, List.length_append, List.length_singleton] at h1
                simp only [List.length_append, List.length_nil]
                omega
              obtain ⟨fn, tmps, assign, body, hy, hR⟩ := HY.out _ x w3 HJ3.out hlen
              unfold cv at hy
              gi_wp2
              refine hR.mono ?_
              have h2 := HBT.out
              rw [hcf, if_pos rfl] at h2
              rintro e w4 (⟨rfl, hJ4, hk4⟩ | ⟨rfl, hJx4⟩)
              · have HJ4 := Lib.hid hJ4
                have HK4 := Lib.hid (hkt.out.trans hk4)
                clear hJ4 hk4
                gi_wp2
                go_roundw
                case rel => exact ⟨j + 1, hlt, by simp, by rw [h2, ← List.append_assoc]; exact HJ4.out, HK4.out⟩
                case measure => dsimp only [intOf]; omega
              · have HJX := Lib.hid hJx4
                clear hJx4
                gi_wp2
                refine bodyPost_ret (results_none rfl _ _ _) rfl ?_
                exact ⟨⟨_, rfl⟩, .inr ⟨_, by rw [List.nil_append, ← h2]; exact (blkC_prefix ms1 (j + 1) c).trans (List.prefix_append _ _), HJX.out⟩⟩
          · have hjn : j = n1 := by omega
            have hjl : j = ms1.length := hjn.trans HM1.out.len.symm
            have hj1 : ¬ (j : Int) < (n1 : Int) := by omega
            gi_wp2
            go_roundw
            case rel => exact ⟨1, by omega, by simp, by have h := HJW.out; rw [List.nil_append, hjl, List.take_length] at h; simpa using h, HKW.out⟩
            case measure => dsimp only [intOf]; omega
      · obtain rfl : k = 1 := by omega
        have HWR := Lib.hid hkw
        have HG := Lib.hid (hkw.blk HGB.out rfl)
        have hg0 := HG.out.cell 0
        have hg1 := HG.out.cell 1
        simp at hg0 hg1
        have HJ0 := Lib.hid hjw
        clear hjw hkw
        obtain ⟨wo, hwo⟩ : ∃ wo : World, wo = wr := ⟨_, rfl⟩
        rw [← hwo] at HWR HG hg0 hg1 HJ0 ⊢
        clear hwo wr
        gi_wp2
        clear hg0 hg1
        gi_loopw [19] (fun i wr => ∃ j : Nat, j ≤ n2 ∧ i = .int .i64 j ∧ J (blkC ms1 c ++ blkC (ms2.take j) c) wr ∧ KeepT B W1 wr) (fun i _ => n2 - (intOf i).toNat)
        case atStart => exact ⟨0, Nat.zero_le _, rfl, by simpa [blkC] using HJ0.out, HWR.out⟩
        case round =>
          obtain ⟨j, hj, rfl, hjw, hkw⟩ := hrel
          have HKW := Lib.hid hkw
          have HJW := Lib.hid hjw
          clear hjw hkw
          by_cases hlt : j < n2
          · have hcl := HM2.out.keep HKW.out
            obtain ⟨b, off, x, rfl, hx, x0, x1⟩ := hcl.at_.at_ hlt
            have HX := Lib.hid hx
            have HNX := Lib.hid (hcl.ns x (List.mem_of_getElem? hx))
            have HNC := Lib.hid (HKW.out.ns HC.out hcB)
            have HPC := Lib.hid (HKW.out.blk HP3.out rfl)
            have HLT := Lib.hid hlt
            have HBT := Lib.hid (blkC_take c hx)
            have hj0 : (0 : Int) ≤ (j : Int) := by omega
            have hj1 : (j : Int) < (n2 : Int) := by omega
            clear hcl hx
            have hp := HPC.out.alloc (.cells #[.int .i64 x.1.id, .map (some x.2)] tC)
            have q0 := hp.cell 0
            have q1 := hp.cell 1
            simp [ca] at q0 q1
            clear hp
            gi_wp2
            clear q0 q1 x0 x1
            obtain ⟨w2, q, e1, e2, hb2, hq⟩ := boxes1 wr tC (ca x)
            unfold ca at e1
            rw [show wr.alloc (.cells #[.int .i64 x.1.id, .map (some x.2)] 61) = w2 from e1, e2]
            have hcall := clConflict x c w2 (HNX.out.below hb2) (HNC.out.below hb2)
            unfold cv at hcall
            refine ⟨trivial, (callsIn_wide.2 hcall).mono ?_⟩
            rintro e w3 ⟨rfl, hb3⟩
            have hb : Below wr.heap.size wr w3 := below_then hb2 hb3
            have hq3 := hq.below hb3
            have q0 := hq3.cell 0
            have q1 := hq3.cell 1
            simp [ca] at q0 q1
            have HB := Lib.hid hb
            have HJ3 := Lib.hid (HJ.out _ _ _ none HJW.out ⟨hb.os, hb.tape, hb.output, hb.size, fun k hk _ => hb.block k hk⟩ (fun r e => by cases e))
            have hkt := Lib.hid (HKW.out.trans (KeepT.of_below hb))
            clear e1 e2 hb2 hb3 hq hq3 hcall hb
            cases hcf : conf x.1 c.1
            · gi_wp2
              refine ⟨fun _ h => (by cases h), ?_⟩
              gi_wp2
              go_roundw
              case rel => exact ⟨j + 1, hlt, by simp, by rw [HBT.out, hcf]; exact HJ3.out, hkt.out⟩
              case measure => dsimp only [intOf]; omega
            · have hlen : (blkC ms1 c ++ blkC (ms2.take j) c).length < (blkC ms1 c ++ blkC ms2 c).length := by
                have h1 := (blkC_prefix ms2 (j + 1) c).length_le
                rw [HBT.out, if_pos hcf, List.length_append, List.length_singleton] at h1
                simp only [List.length_append]
                omega
              obtain ⟨fn, tmps, assign, body, hy, hR⟩ := HY.out _ x w3 HJ3.out hlen
              unfold cv at hy
              gi_wp2
              refine hR.mono ?_
              have h2 := HBT.out
              rw [hcf, if_pos rfl] at h2
              rintro e w4 (⟨rfl, hJ4, hk4⟩ | ⟨rfl, hJx4⟩)
              · have HJ4 := Lib.hid hJ4
                have HK4 := Lib.hid (hkt.out.trans hk4)
                clear hJ4 hk4
                gi_wp2
                go_roundw
                case rel => exact ⟨j + 1, hlt, by simp, by rw [h2, ← List.append_assoc]; exact HJ4.out, HK4.out⟩
                case measure => dsimp only [intOf]; omega
              · have HJX := Lib.hid hJx4
                clear hJx4
                gi_wp2
                refine bodyPost_ret (results_none rfl _ _ _) rfl ?_
                exact ⟨⟨_, rfl⟩, .inr ⟨_, by rw [List.append_assoc, ← h2]; exact (List.prefix_append_right_inj _).2 (blkC_prefix ms2 (j + 1) c), HJX.out⟩⟩
          · have hjn : j = n2 := by omega
            have hjl : j = ms2.length := hjn.trans HM2.out.len.symm
            have hj1 : ¬ (j : Int) < (n2 : Int) := by omega
            gi_wp2
            go_roundw
            case rel => exact ⟨2, by omega, by simp, by have h := HJW.out; rw [hjl, List.take_length] at h; simpa using h, HKW.out⟩
            case measure => dsimp only [intOf]; omega
end Go.Proofs.YtjklhiifjnmedaaGreatDoor
namespace Go.Proofs.YtjklhiifjnmedaaGreatDoor
open Go.RowKit P43 Go.Shelf
attribute [local go_sem] Oper.semAt_some ByteArray.mk_append_mk ByteArray.extract_mk mk_index

theorem ClsT.up {B B' : Nat} {w : World} {A : Option Addr} {n : Nat} {ms : List Cm} (c : ClsT B w A n ms) (h : B ≤ B') : ClsT B' w A n ms := ⟨c.at_, c.row, c.ns, fun m hm => Nat.lt_of_lt_of_le (c.lt m hm) h⟩
/-- The sequence that blocked hands back: its captures. -/
abbrev lbOf (p1 p2 p3 : Nat) : Array Value := #[.pointer (some ⟨p1, 0, none⟩), .pointer (some ⟨p2, 0, none⟩), .pointer (some ⟨p3, 0, none⟩)]
/-- In w the sequence of the claims L lies ready. -/
abbrev SeqC (w : World) (lb : Array Value) (L : List Cm) : Prop :=
  ∀ m, 1 ≤ m → SeqStopsK Fence.wide m Tryz.prog 53 lb (fun x : Cm => #[cv x]) (KeepT w.heap.size) (fun ys => ys = L) (fun pre => pre <+: L) L.length w
theorem seqC_of {w : World} {p1 p2 p3 n1 c1 n2 c2 : Nat} {A1 A2 : Option Addr} {c : Cm} {ms1 ms2 : List Cm}
    (h1 : Blk w p1 tSl #[.slice A1 n1 c1]) (h2 : Blk w p2 tSl #[.slice A2 n2 c2]) (h3 : Blk w p3 tC (ca c)) (hc : NsAt w c) (hcB : c.2 < w.heap.size) (hm1 : ClsT w.heap.size w A1 n1 ms1) (hm2 : ClsT w.heap.size w A2 n2 ms2) (hn1 : n1 ≤ 1000000) (hn2 : n2 ≤ 1000000) :
    SeqC w (lbOf p1 p2 p3) (blkC ms1 c ++ blkC ms2 c) := by
  intro m hm l J Jx W hW hJ hJx hY h0
  have hk : KeepT w.heap.size w W := KeepT.of_below hW
  exact clBlocked1 m hm _ l p1 p2 p3 n1 c1 n2 c2 A1 A2 c ms1 ms2 W J Jx hJ hY (hk.blk h1 rfl) (hk.blk h2 rfl) (hk.blk h3 rfl) (hk.ns hc hcB) hcB (hm1.keep hk) (hm2.keep hk) hn1 hn2 h0
theorem keepT_put {B : Nat} {W : World} {l : Nat} {o o' : Obj} (hl : B ≤ l) (h : W.heap[l]? = some o) (hc : o.isCells = false) : KeepT B W (W.putObj l o') := by
  refine ⟨by simp [World.putObj], fun k u hu hk => ?_⟩
  by_cases e : k = l
  · subst e
    obtain rfl : o = u := by rw [h] at hu; exact Option.some.inj hu
    cases o <;> simp_all [keepT, Obj.isCells]
    omega
  · have hg := (grownBy_putObj' W l o').block k (Array.getElem?_eq_some_iff.1 hu).1 (by simpa using e)
    exact hg.trans hu
set_option maxRecDepth 100000 in
set_option maxHeartbeats 2000000 in
theorem clBlocked (c : Cm) (ms1 ms2 : List Cm) (n1 c1 n2 c2 : Nat) (A1 A2 : Option Addr) (w : World) (hc : NsAt w c) (hcB : c.2 < w.heap.size) (hm1 : ClsT w.heap.size w A1 n1 ms1) (hm2 : ClsT w.heap.size w A2 n2 ms2) (hn1 : n1 ≤ 1000000) (hn2 : n2 ≤ 1000000) :
    Calls Tryz.prog 27 #[cv c, .slice A1 n1 c1, .slice A2 n2 c2] w fun e w' => Below w.heap.size w w' ∧ ∃ lb, e = .returned (.func (.func 53) #[] lb) ∧ SeqC w' lb (blkC ms1 c ++ blkC ms2 c) := by
  have HC := Lib.hid hc
  have HM1 := Lib.hid hm1
  have HM2 := Lib.hid hm2
  clear hc hm1 hm2
  unfold cv
  go_enter Tryz.func27, Tryz.ntmps27
  have hb1 := below_alloc (Below.refl _ w) (.cells #[.int .i64 c.1.id, .map (some c.2)] tC)
  have hb2 := below_alloc hb1 (.cells #[.slice A1 n1 c1] tSl)
  have hb3 := below_alloc hb2 (.cells #[.slice A2 n2 c2] tSl)
  have hk := KeepT.of_below (B := w.heap.size) hb3
  have h3 := ((Blk.new w tC (ca c)).alloc (.cells #[.slice A1 n1 c1] tSl)).alloc (.cells #[.slice A2 n2 c2] tSl)
  have h1 := (Blk.new (w.alloc (.cells (ca c) tC)) tSl #[.slice A1 n1 c1]).alloc (.cells #[.slice A2 n2 c2] tSl)
  have h2 := Blk.new ((w.alloc (.cells (ca c) tC)).alloc (.cells #[.slice A1 n1 c1] tSl)) tSl #[.slice A2 n2 c2]
  have hC := hk.ns HC.out hcB
  have hM1 := HM1.out.keep hk
  have hM2 := HM2.out.keep hk
  simp only [World.size_alloc] at h1 h2
  have HS := Lib.hid (seqC_of h1 h2 h3 hC (by simp; omega) (hM1.up (by simp; omega)) (hM2.up (by simp; omega)) hn1 hn2)
  have HB := Lib.hid hb3
  clear hb1 hb2 hb3 hk h1 h2 h3 hC hM1 hM2
  go_wp2
  go_ret
  exact ⟨HB.out, _, rfl, HS.out⟩
set_option maxRecDepth 100000 in
set_option maxHeartbeats 2000000 in
theorem clFree (lb : Array Value) (L : List Cm) (w : World) (hs : SeqC w lb L) :
    Calls Tryz.prog 26 #[.func (.func 53) #[] lb] w fun e w' => e = .returned (.bool (decide (L = []))) ∧ Below w.heap.size w w' := by
  refine (callsIn_wide (n := 3)).1 ?_
  refine callsIn_of_wp_marks Tryz.func26 rfl trivial ?_ rfl
  simp only [Tryz.ntmps26, List.size_toArray, List.length_cons, List.length_nil, Nat.reduceAdd, Nat.reduceSub, Array.replicate_succ, Array.replicate_zero, List.push_toArray, List.append_toArray, List.nil_append, List.cons_append]
  gi_wp2
  have hq := Blk.new w 4 #[.bool false]
  have hB0 := below_alloc (Below.refl _ w) (.cells #[.bool false] 4)
  have hf0 := hq.frozen 0
  have hq0 := hq.cell 0
  simp only [Array.getElem?_eq_getElem, List.size_toArray, List.length_cons, List.length_nil, Nat.zero_add, Nat.lt_add_one, List.getElem_toArray, List.getElem_cons_zero] at hq0
  obtain ⟨w1, hw1⟩ : ∃ w1, w.alloc (.cells #[.bool false] 4) = w1 := ⟨_, rfl⟩
  have hsz : w1.heap.size = w.heap.size + 1 := by rw [← hw1]; simp
  rw [hw1] at hB0 hf0 hq0 ⊢
  clear hw1 hq
  refine wpIn_rangeFunc_ownF rfl (by omega) (gf := 53) (lb := lb) rfl trivial (enters_of Tryz.func53 (by kernel_rfl) rfl)
    (hs (3 - 1) (by omega)) (fun h k => h.trans k) (fun W l o o' hl h hc _ => keepT_put (by omega) h hc) hB0 (fun _ => rfl)
    (fun pre W => (pre = [] ∧ W.cell? ⟨w.heap.size, 0, none⟩ = some (.bool false) ∧ W.frozen? ⟨w.heap.size, 0, none⟩ = false) ∧ Below w.heap.size w W)
    (fun c pre W => (c = .ret ∧ pre ≠ [] ∧ W.cell? ⟨w.heap.size, 0, none⟩ = some (.bool false)) ∧ Below w.heap.size w W)
    (OwnFrom.and (Own.from (fun s A B row hs hg hr => ⟨hs.1, cell_kept hs.2.1 hg hr, (frozen_kept hs.2.1 hg hr).trans hs.2.2⟩) _) (ownFrom_below (Nat.le_refl _) (by omega)))
    (fun c => OwnFrom.and (Own.from (fun s A B row hs hg hr => ⟨hs.1, hs.2.1, cell_kept hs.2.2 hg hr⟩) _) (ownFrom_below (Nat.le_refl _) (by omega)))
    ⟨⟨rfl, hq0, hf0⟩, hB0⟩
    (fun x => { tmps := #[.func (.func 53) #[] lb, undef, .pointer (some ⟨w.heap.size, 0, none⟩), .func (.func 53) #[] lb, cv x], defers := [] }) ?assign ?body ?done ?stop
  case assign =>
    intro l x W K hK
    gi_wp2
    simpa using hK
  case body =>
    rintro l pre x W ⟨⟨hp, hcr, hfr⟩, hB⟩ _
    gi_wp2
    exact ⟨KeepsOthers.setCell _ _ _, ⟨rfl, by simp, World.cell?_setCell_same' _ _ _ (by rw [hcr]; rfl)⟩, hB.setCell (p := ⟨w.heap.size, 0, none⟩) (by simp) _⟩
  case done =>
    rintro D ys W hD rfl ⟨⟨hne, hcr, hfr⟩, hB⟩ hK
    gi_wp2
    have hK' := (KeepsOthers.setCell W ⟨w.heap.size, 0, none⟩ (.bool true)).same D _ hK rfl
    refine ⟨by simp, .inl ⟨_, _, rfl, run_takeDeferred hK', ?_⟩⟩
    have hc5 := cell_kept (World.cell?_setCell_same' W ⟨w.heap.size, 0, none⟩ (.bool true) (by rw [hcr]; rfl)) (grownBy_putObj' _ D (.deferred none)) (fun r e => by cases e; exact ⟨_, hK', rfl⟩)
    refine ⟨.bool true, ?_, by simp [hne], (hB.setCell (p := ⟨w.heap.size, 0, none⟩) (by simp) _).trans (belowK_b (w := w) (Nat.le_refl _) _ D _ _ (by omega) hK' rfl rfl)⟩
    simp [results, Tryz.f26, go_sem, hc5]
  case stop =>
    rintro D c pre W hD hpre ⟨⟨rfl, hin, hcr⟩, hB⟩ hK
    gi_wp2
    refine ⟨by simp, .inl ⟨_, _, rfl, run_takeDeferred hK, ?_⟩⟩
    have hc5 := cell_kept hcr (grownBy_putObj' _ D (.deferred none)) (fun r e => by cases e; exact ⟨_, hK, rfl⟩)
    refine ⟨.bool false, ?_, by rw [decide_eq_false (p := L = []) (fun h => hin (by subst h; exact List.prefix_nil.1 hpre))], hB.trans (belowK_b (w := w) (Nat.le_refl _) W D _ _ (by omega) hK rfl rfl)⟩
    simp [results, Tryz.f26, go_sem, hc5]
end Go.Proofs.YtjklhiifjnmedaaGreatDoor
namespace Go.Proofs.YtjklhiifjnmedaaGreatDoor
open Go.RowKit P43

/-- Claims whose maps lie in blocks of their own, from B on. -/
structure Claims (w : World) (B : Nat) (l : List Cm) : Prop where
  ns : ∀ m ∈ l, NsAt w m
  lo : ∀ m ∈ l, B ≤ m.2
  nd : (l.map (·.2)).Nodup
/-- The table at block p holds 'hs' and has 'ws' waiting; its memory lies in blocks from B on. -/
structure Tab (w : World) (B p : Nat) (hs ws : List Cm) (vh vw : Value) : Prop where
  box : Blk w p tT #[vh, vw]
  base : B ≤ p
  held : OwnK w B tC vh hs
  wait : OwnK w B tC vw ws
  apart : vh.ownBlock = none ∨ vh.ownBlock ≠ vw.ownBlock
/-- A table, its claims' maps with it. -/
structure Tbl (w : World) (B p : Nat) (hs ws : List Cm) (vh vw : Value) : Prop extends Tab w B p hs ws vh vw where
  maps : Claims w B (hs ++ ws)
/-- Block k holds cells of the table's. -/
def FootT (w : World) (p k : Nat) : Prop := k = p ∨ ∃ vh vw, Blk w p tT #[vh, vw] ∧ (vh.ownBlock = some k ∨ vw.ownBlock = some k)
/-- From w to w' only the table's cells and the blocks M may have changed; its cells lie in blocks that it had, or in new ones. -/
structure MovedT (p : Nat) (M : Nat → Prop) (w w' : World) : Prop where
  os : w'.os = w.os
  tape : w'.tape = w.tape
  output : w'.output = w.output
  size : w.heap.size ≤ w'.heap.size
  block : ∀ k, k < w.heap.size → ¬ FootT w p k → ¬ M k → w'.heap[k]? = w.heap[k]?
  foot : ∀ k, FootT w' p k → FootT w p k ∨ w.heap.size ≤ k
def NoM : Nat → Prop := fun _ => False
theorem NsAt.lt {w : World} {m : Cm} (h : NsAt w m) : m.2 < w.heap.size := by
  obtain ⟨D, ⟨es, clock, h0, F, hs, hD⟩, h2, h3⟩ := h.1.own
  exact (Array.getElem?_eq_some_iff.1 h0).1
theorem NsAt.heap {w w' : World} {m : Cm} (h : NsAt w m) (e : w'.heap[m.2]? = w.heap[m.2]?) : NsAt w' m := by
  refine ⟨?_, h.2⟩
  obtain ⟨D, ⟨es, clock, h0, F, hs, hD⟩, h2, h3⟩ := h.1.own
  exact ⟨D, ⟨es, clock, e.trans h0, F, hs, hD⟩, h2, h3⟩
theorem NsAt.noBlk {w : World} {m : Cm} (h : NsAt w m) {t : TypeId} {cs : Array Value} (hb : Blk w m.2 t cs) : False := by
  obtain ⟨D, ⟨es, clock, h0, F, hs, hD⟩, h2, h3⟩ := h.1.own
  have := hb.symm.trans h0
  simp at this
theorem Claims.below {w w' : World} {B : Nat} {l : List Cm} (h : Claims w B l) (hb : Below w.heap.size w w') : Claims w' B l := ⟨fun x hx => (h.ns x hx).below hb, h.lo, h.nd⟩
theorem Claims.grown {w w' : World} {B : Nat} {l : List Cm} (h : Claims w B l) {row : Option Nat} (hg : w.grownBy w' row) (hr : ∀ k, row = some k → ∃ t cs, Blk w k t cs) : Claims w' B l :=
  ⟨fun x hx => (h.ns x hx).heap (hg.block _ (h.ns x hx).lt (fun e => by obtain ⟨t, cs, hb⟩ := hr _ e.symm; exact (h.ns x hx).noBlk hb)), h.lo, h.nd⟩
theorem Claims.setCell {w : World} {B : Nat} {l : List Cm} (h : Claims w B l) {p : Nat} {t : TypeId} {cs : Array Value} (hb : Blk w p t cs) (i : Nat) (u : Value) : Claims (w.setCell ⟨p, i, none⟩ u) B l :=
  ⟨fun x hx => (h.ns x hx).heap (Below.heap_setCell _ _ _ _ (fun e => (h.ns x hx).noBlk (t := t) (cs := cs) (by rw [e]; exact hb))), h.lo, h.nd⟩
theorem Claims.perm {w : World} {B : Nat} {l l' : List Cm} (h : Claims w B l) (hp : l'.Perm l) : Claims w B l' := ⟨fun x hx => h.ns x (hp.subset hx), fun x hx => h.lo x (hp.subset hx), ((hp.map _).nodup_iff).2 h.nd⟩
theorem Claims.sub {w : World} {B : Nat} {l l' : List Cm} (h : Claims w B l) (hp : l'.Sublist l) : Claims w B l' := ⟨fun x hx => h.ns x (hp.subset hx), fun x hx => h.lo x (hp.subset hx), h.nd.sublist (hp.map _)⟩
theorem OwnK.own {w : World} {B : Nat} {e : TypeId} {v : Value} {ls : List Cm} (h : OwnK w B e v ls) : ∀ k, v.ownBlock = some k → ∃ t cs, Blk w k t cs := by
  intro k hk
  rcases h.2 with ⟨rfl, _⟩ | ⟨g, cap, cur, rfl, _, hg, _⟩
  · simp [Value.ownBlock] at hk
  · simp [Value.ownBlock] at hk
    subst hk
    exact ⟨_, _, hg⟩
theorem OwnK.rowBlk {w : World} {B : Nat} {e : TypeId} {v : Value} {ls : List Cm} (h : OwnK w B e v ls) : ∀ b off n c, v = .slice (some ⟨b, off, none⟩) n c → ∃ cs, Blk w b e cs := by
  intro b off n c hv
  rcases h.2 with ⟨rfl, _⟩ | ⟨g, cap, cur, rfl, _, hg, _⟩
  · cases hv
  · cases hv
    exact ⟨_, hg⟩
section
variable {w w1 w' : World} {B p : Nat} {hs ws : List Cm} {vh vw : Value} {M : Nat → Prop}
theorem Tab.foot (m : Tab w B p hs ws vh vw) {k : Nat} : FootT w p k ↔ k = p ∨ vh.ownBlock = some k ∨ vw.ownBlock = some k := by
  constructor
  · rintro (rfl | ⟨a, b, hb, hk⟩)
    · exact .inl rfl
    · have := Blk.inj hb m.box
      simp at this
      obtain ⟨rfl, rfl⟩ := this
      exact .inr hk
  · rintro (rfl | hk)
    · exact .inl rfl
    · exact .inr ⟨vh, vw, m.box, hk⟩
theorem Tab.ge (m : Tab w B p hs ws vh vw) {k : Nat} (hk : FootT w p k) : B ≤ k ∧ k < w.heap.size := by
  rcases m.foot.1 hk with rfl | hk | hk
  · exact ⟨m.base, m.box.lt⟩
  · exact m.held.lt k hk
  · exact m.wait.lt k hk
theorem Tab.box_ne (m : Tab w B p hs ws vh vw) : vh.ownBlock ≠ some p ∧ vw.ownBlock ≠ some p := by
  have key : ∀ {v : Value} {ls : List Cm}, OwnK w B tC v ls → v.ownBlock ≠ some p := by
    intro v ls ho e
    rcases ho.2 with ⟨rfl, _⟩ | ⟨g, cap, cur, rfl, _, hg, _⟩
    · simp [Value.ownBlock] at e
    · simp [Value.ownBlock] at e
      subst e
      exact Blk.ne m.box hg (by decide) rfl
  exact ⟨key m.held, key m.wait⟩
theorem Tab.below (m : Tab w B p hs ws vh vw) (hb : Below w.heap.size w w') : Tab w' B p hs ws vh vw :=
  ⟨m.box.below hb, m.base, m.held.below hb, m.wait.below hb, m.apart⟩
theorem Tbl.below (m : Tbl w B p hs ws vh vw) (hb : Below w.heap.size w w') : Tbl w' B p hs ws vh vw := ⟨m.toTab.below hb, m.maps.below hb⟩
theorem Tbl.mapLt (m : Tbl w B p hs ws vh vw) {x : Cm} (hx : x ∈ hs ++ ws) : x.2 < w.heap.size := (m.maps.ns x hx).lt
/-- A row of the table as the walk reads it. -/
theorem clsT_of {v : Value} {ls : List Cm} (h : OwnK w B tC v ls) (hn : ∀ x ∈ ls, NsAt w x) : ∃ A c, v = .slice A ls.length c ∧ ClsT w.heap.size w A ls.length ls := by
  obtain ⟨A, c, rfl, h1, -⟩ := h.cells
  exact ⟨A, c, rfl, h1, fun b off e => h.rowBlk b off _ _ (by rw [e]), hn, fun x hx => (hn x hx).lt⟩
theorem Tbl.clsH (m : Tbl w B p hs ws vh vw) : ∃ A c, vh = .slice A hs.length c ∧ ClsT w.heap.size w A hs.length hs := clsT_of m.held fun x hx => m.maps.ns x (List.mem_append_left _ hx)
theorem Tbl.clsW (m : Tbl w B p hs ws vh vw) : ∃ A c, vw = .slice A ws.length c ∧ ClsT w.heap.size w A ws.length ws := clsT_of m.wait fun x hx => m.maps.ns x (List.mem_append_right _ hx)
theorem MovedT.refl (p : Nat) (M : Nat → Prop) (w : World) : MovedT p M w w := ⟨rfl, rfl, rfl, Nat.le_refl _, fun _ _ _ _ => rfl, fun _ h => .inl h⟩
theorem MovedT.trans (a : MovedT p M w w1) (b : MovedT p M w1 w') : MovedT p M w w' := by
  refine ⟨b.os.trans a.os, b.tape.trans a.tape, b.output.trans a.output, Nat.le_trans a.size b.size, fun k hk hf hm => ?_, fun k hk => ?_⟩
  · rw [b.block k (Nat.lt_of_lt_of_le hk a.size) (fun h => (a.foot k h).elim hf (fun h => by omega)) hm, a.block k hk hf hm]
  · rcases b.foot k hk with h | h
    · exact a.foot k h
    · exact .inr (Nat.le_trans a.size h)
theorem MovedT.wide {N : Nat → Prop} (a : MovedT p M w w') (h : ∀ k, M k → N k) : MovedT p N w w' := ⟨a.os, a.tape, a.output, a.size, fun k hk hf hn => a.block k hk hf (fun hm => hn (h k hm)), a.foot⟩
theorem MovedT.of_below (hb : Below w.heap.size w w') (hp : p < w.heap.size) : MovedT p M w w' := by
  refine ⟨hb.os, hb.tape, hb.output, hb.size, fun k hk _ _ => hb.block k hk, fun k hk => .inl ?_⟩
  rcases hk with rfl | ⟨a, b, hblk, hk⟩
  · exact .inl rfl
  · refine .inr ⟨a, b, ?_, hk⟩
    unfold Blk at hblk ⊢
    rw [← hb.block p hp]
    exact hblk
theorem MovedT.below (m : MovedT p M w w') (hf : ∀ k, FootT w p k ∨ M k → B ≤ k) (hB : B ≤ w.heap.size) : Below B w w' :=
  ⟨m.os, m.tape, m.output, m.size, fun k hk => m.block k (by omega) (fun h => by have := hf k (.inl h); omega) (fun h => by have := hf k (.inr h); omega)⟩
theorem Blk.movedT {g : Nat} {t : TypeId} {cs : Array Value} (hb : Blk w g t cs) (m : MovedT p M w w') (hf : ¬ FootT w p g) (hm : ¬ M g) : Blk w' g t cs := (m.block g hb.lt hf hm).trans hb
theorem CellsAt.movedT {A : Option Addr} {n size : Nat} {xs : List Value} (hc : CellsAt w A n size xs) (m : MovedT p M w w') (hf : ∀ b off, A = some ⟨b, off, none⟩ → ¬ FootT w p b ∧ ¬ M b) : CellsAt w' A n size xs :=
  ⟨hc.1, fun j u hj => by
    obtain ⟨b, off, h1, h2⟩ := hc.2 j u hj
    refine ⟨b, off, h1, ?_⟩
    have hlt := World.block_lt_of_cell? w _ h2
    have e := m.block b hlt (hf b off h1).1 (hf b off h1).2
    unfold World.cell? at h2 ⊢
    rw [e]
    exact h2⟩
end
/-- New: an empty table. -/
theorem clNew (w : World) : Calls Tryz.prog 22 #[] w fun e w' => ∃ p, e = .returned (.pointer (some ⟨p, 0, none⟩)) ∧ Tbl w' w.heap.size p [] [] (.slice none 0 0) (.slice none 0 0) ∧ Below w.heap.size w w' := by
  go_enter Tryz.func22, Tryz.ntmps22
  go_wp2
  go_ret
  exact ⟨_, rfl, ⟨⟨Blk.new _ _ _, Nat.le_refl _, OwnK.nil _ _ _, OwnK.nil _ _ _, .inl rfl⟩, ⟨fun m h => by simp at h, fun m h => by simp at h, by simp⟩⟩, below_alloc (Below.refl _ _) _⟩
end Go.Proofs.YtjklhiifjnmedaaGreatDoor
namespace Go.Proofs.YtjklhiifjnmedaaGreatDoor
open Go.RowKit P43

theorem OwnK.setCell {w : World} {B : Nat} {e : TypeId} {v : Value} {ls : List Cm} (h : OwnK w B e v ls) {p : Addr} (hp : v.ownBlock ≠ some p.block) (u : Value) : OwnK (w.setCell p u) B e v ls := by
  refine ⟨h.1, ?_⟩
  rcases h.2 with h1 | ⟨g, cap, cur, rfl, a2, a3, a4⟩
  · exact .inl h1
  · refine .inr ⟨g, cap, cur, rfl, a2, ?_, a4⟩
    rw [Below.heap_setCell]
    · exact a3
    · intro e
      exact hp (by simp [Value.ownBlock, e])
section
variable {w w1 : World} {B p : Nat} {h q h' q' : List Cm} {vh vq v : Value} {M : Nat → Prop}
theorem MovedT.put (m : Tab w B p h q vh vq) {row : Option Nat} (hg : w.grownBy w1 row) (hr : ∀ k, row = some k → FootT w p k ∧ k ≠ p) {a b : Value} (hb : Blk w1 p tT #[a, b]) (i : Nat)
    (ha : ∀ k, a.ownBlock = some k ∨ b.ownBlock = some k → FootT w p k ∨ w.heap.size ≤ k) (hv : ∀ k, v.ownBlock = some k → FootT w p k ∨ w.heap.size ≤ k) : MovedT p M w (w1.setCell ⟨p, i, none⟩ v) := by
  refine ⟨hg.os, hg.tape, hg.output, by simpa using hg.size, fun k hk hf hm => ?_, fun k hk => ?_⟩
  · rw [Below.heap_setCell _ _ _ _ (fun e => hf (.inl e))]
    exact hg.block k hk (fun e => hf (hr k e.symm).1)
  · rcases hk with rfl | ⟨a2, b2, hb2, hk⟩
    · exact .inl (.inl rfl)
    · have hbp := hb.put i v
      have := Blk.inj hb2 hbp
      match i, this with
      | 0, this =>
        simp at this
        obtain ⟨rfl, rfl⟩ := this
        rcases hk with hk | hk
        · exact hv k hk
        · exact ha k (.inr hk)
      | 1, this =>
        simp at this
        obtain ⟨rfl, rfl⟩ := this
        rcases hk with hk | hk
        · exact ha k (.inl hk)
        · exact hv k hk
      | i + 2, this =>
        simp at this
        obtain ⟨rfl, rfl⟩ := this
        exact ha k hk
theorem Tab.put1 (m : Tab w B p h q vh vq) (hg : w.grownBy w1 vq.ownBlock) (ho : OwnK w1 B tC v q') (hv : v.ownBlock = none ∨ v.ownBlock = vq.ownBlock ∨ ∃ k, v.ownBlock = some k ∧ w.heap.size ≤ k) :
    Tab (w1.setCell ⟨p, 1, none⟩ v) B p h q' vh v ∧ MovedT p M w (w1.setCell ⟨p, 1, none⟩ v) := by
  have hp := m.box.lt
  obtain ⟨n1, n2⟩ := m.box_ne
  have hb1 : Blk w1 p tT #[vh, vq] := m.box.grown hg (fun e => n2 e.symm)
  have hvp : v.ownBlock ≠ some p := by
    rcases hv with e | e | ⟨k, e, hk⟩
    · rw [e]; simp
    · rw [e]; exact n2
    · rw [e]
      simp
      omega
  refine ⟨⟨by simpa using hb1.put 1 v, m.base, (m.held.kept hg m.apart).setCell n1 v, ho.setCell hvp v, ?_⟩, MovedT.put m hg (fun k e => ⟨.inr ⟨vh, vq, m.box, .inr e⟩, fun e2 => n2 (e2 ▸ e)⟩) hb1 1 ?_ ?_⟩
  · rcases hv with e | e | ⟨k, e, hk⟩
    · by_cases h0 : vh.ownBlock = none
      · exact .inl h0
      · exact .inr (by rw [e]; exact h0)
    · rw [e]; exact m.apart
    · rcases h0 : vh.ownBlock with _ | y
      · exact .inl rfl
      · have := (m.held.lt y h0).2
        exact .inr (by rw [e]; simp; omega)
  · intro k hk
    exact .inl (.inr ⟨vh, vq, m.box, hk⟩)
  · intro k hk
    rcases hv with e | e | ⟨k2, e, hk2⟩
    · rw [e] at hk; cases hk
    · rw [e] at hk
      exact .inl (.inr ⟨vh, vq, m.box, .inr hk⟩)
    · rw [e] at hk
      cases hk
      exact .inr hk2
theorem Tab.put0 (m : Tab w B p h q vh vq) (hg : w.grownBy w1 vh.ownBlock) (ho : OwnK w1 B tC v h') (hv : v.ownBlock = none ∨ v.ownBlock = vh.ownBlock ∨ ∃ k, v.ownBlock = some k ∧ w.heap.size ≤ k) :
    Tab (w1.setCell ⟨p, 0, none⟩ v) B p h' q v vq ∧ MovedT p M w (w1.setCell ⟨p, 0, none⟩ v) := by
  have hp := m.box.lt
  obtain ⟨n1, n2⟩ := m.box_ne
  have hb1 : Blk w1 p tT #[vh, vq] := m.box.grown hg (fun e => n1 e.symm)
  have hap : vq.ownBlock = none ∨ vq.ownBlock ≠ vh.ownBlock := by
    rcases m.apart with e | e
    · by_cases h0 : vq.ownBlock = none
      · exact .inl h0
      · exact .inr (by rw [e]; exact h0)
    · exact .inr (Ne.symm e)
  have hvp : v.ownBlock ≠ some p := by
    rcases hv with e | e | ⟨k, e, hk⟩
    · rw [e]; simp
    · rw [e]; exact n1
    · rw [e]
      simp
      omega
  refine ⟨⟨by simpa using hb1.put 0 v, m.base, ho.setCell hvp v, (m.wait.kept hg hap).setCell n2 v, ?_⟩, MovedT.put m hg (fun k e => ⟨.inr ⟨vh, vq, m.box, .inl e⟩, fun e2 => n1 (e2 ▸ e)⟩) hb1 0 ?_ ?_⟩
  · rcases hv with e | e | ⟨k, e, hk⟩
    · exact .inl e
    · rw [e]; exact m.apart
    · rcases h0 : vq.ownBlock with _ | y
      · exact .inr (by rw [e]; simp)
      · have := (m.wait.lt y h0).2
        exact .inr (by rw [e]; simp; omega)
  · intro k hk
    exact .inl (.inr ⟨vh, vq, m.box, hk⟩)
  · intro k hk
    rcases hv with e | e | ⟨k2, e, hk2⟩
    · rw [e] at hk; cases hk
    · rw [e] at hk
      exact .inl (.inr ⟨vh, vq, m.box, .inl hk⟩)
    · rw [e] at hk
      cases hk
      exact .inr hk2
end
/-- 't.holders = append(t.holders, l)'. -/
theorem Tab.push0 {w8 w9 : World} {B p : Nat} {h q : List Cm} {vh vq : Value} {M : Nat → Prop} (m : Tab w8 B p h q vh vq) {l : Cm} {o : Obj} {gg cap : Nat} (hg : ((w8.alloc o).drew).grownBy w9 vh.ownBlock)
    (hown : w9.ownsRow B tC 2 (.slice (some ⟨gg, 0, none⟩) (h.length + 1) cap) (h.length + 1) (ccs h ++ cc l)) (hat : vh.ownBlock = some gg ∨ gg = w8.heap.size + 1) :
    Tab (w9.setCell ⟨p, 0, none⟩ (.slice (some ⟨gg, 0, none⟩) (h.length + 1) cap)) B p (h ++ [l]) q (.slice (some ⟨gg, 0, none⟩) (h.length + 1) cap) vq ∧ MovedT p M w8 (w9.setCell ⟨p, 0, none⟩ (.slice (some ⟨gg, 0, none⟩) (h.length + 1) cap)) := by
  have hb : Below w8.heap.size w8 (w8.alloc o).drew := ((Below.refl _ w8).alloc (Nat.le_refl _) o).drew
  have ho : OwnK w9 B tC (.slice (some ⟨gg, 0, none⟩) (h.length + 1) cap) (h ++ [l]) := by
    unfold OwnK
    rw [List.length_append, ccs_append]
    simpa [ccs] using hown
  obtain ⟨h1, h2⟩ := (m.below hb).put0 (M := M) hg ho (by
    rcases hat with e | e
    · exact .inr (.inl e.symm)
    · exact .inr (.inr ⟨gg, rfl, by rw [e]; show (w8.alloc o).heap.size ≤ _; simp⟩))
  exact ⟨h1, (MovedT.of_below hb m.box.lt).trans h2⟩
/-- 'm.wait = append(m.wait, l)'. -/
theorem Tab.push1 {w8 w9 : World} {B p : Nat} {h q : List Cm} {vh vq : Value} {M : Nat → Prop} (m : Tab w8 B p h q vh vq) {l : Cm} {o : Obj} {gg cap : Nat} (hg : ((w8.alloc o).drew).grownBy w9 vq.ownBlock)
    (hown : w9.ownsRow B tC 2 (.slice (some ⟨gg, 0, none⟩) (q.length + 1) cap) (q.length + 1) (ccs q ++ cc l)) (hat : vq.ownBlock = some gg ∨ gg = w8.heap.size + 1) :
    Tab (w9.setCell ⟨p, 1, none⟩ (.slice (some ⟨gg, 0, none⟩) (q.length + 1) cap)) B p h (q ++ [l]) vh (.slice (some ⟨gg, 0, none⟩) (q.length + 1) cap) ∧ MovedT p M w8 (w9.setCell ⟨p, 1, none⟩ (.slice (some ⟨gg, 0, none⟩) (q.length + 1) cap)) := by
  have hb : Below w8.heap.size w8 (w8.alloc o).drew := ((Below.refl _ w8).alloc (Nat.le_refl _) o).drew
  have ho : OwnK w9 B tC (.slice (some ⟨gg, 0, none⟩) (q.length + 1) cap) (q ++ [l]) := by
    unfold OwnK
    rw [List.length_append, ccs_append]
    simpa [ccs] using hown
  obtain ⟨h1, h2⟩ := (m.below hb).put1 (M := M) hg ho (by
    rcases hat with e | e
    · exact .inr (.inl e.symm)
    · exact .inr (.inr ⟨gg, rfl, by rw [e]; show (w8.alloc o).heap.size ≤ _; simp⟩))
  exact ⟨h1, (MovedT.of_below hb m.box.lt).trans h2⟩
section
variable {w w' : World} {B p : Nat} {v : Value} {xs : List Int} {M : Nat → Prop}
theorem OwnI.movedT (h : OwnI w B v xs) (m : MovedT p M w w') (hf : ∀ k, v.ownBlock = some k → ¬ FootT w p k) (hM : ∀ k, v.ownBlock = some k → ¬ M k) : OwnI w' B v xs := by
  refine ⟨h.1, ?_⟩
  rcases h.2 with h1 | ⟨g, cap, cur, rfl, a2, a3, a4⟩
  · exact .inl h1
  · exact .inr ⟨g, cap, cur, rfl, a2, (m.block g (Array.getElem?_eq_some_iff.1 a3).1 (hf g rfl) (hM g rfl)).trans a3, a4⟩
theorem MovedT.out (m : MovedT p M w w') (hlt : ∀ k, v.ownBlock = some k → k < w.heap.size) (hf : ∀ k, v.ownBlock = some k → ¬ FootT w p k) : ∀ k, v.ownBlock = some k → ¬ FootT w' p k := by
  intro k hk h
  rcases m.foot k h with h | h
  · exact hf k hk h
  · have := hlt k hk
    omega
end
theorem Tab.far {w w' : World} {B p : Nat} {h q : List Cm} {vh vq : Value} (m : Tab w B p h q vh vq) {row : Option Nat} (hg : w.grownBy w' row) (hf : ∀ k, row = some k → ¬ FootT w p k) : Tab w' B p h q vh vq := by
  refine ⟨m.box.grown hg (fun e => hf p e.symm (.inl rfl)), m.base, m.held.kept hg ?_, m.wait.kept hg ?_, m.apart⟩
  · rcases he : vh.ownBlock with _ | y
    · exact .inl rfl
    · exact .inr (fun e => hf y e.symm (.inr ⟨vh, vq, m.box, .inl he⟩))
  · rcases he : vq.ownBlock with _ | y
    · exact .inl rfl
    · exact .inr (fun e => hf y e.symm (.inr ⟨vh, vq, m.box, .inr he⟩))
theorem MovedT.grown {w wr w' : World} {B p : Nat} {h q : List Cm} {vh vq : Value} {M : Nat → Prop} (mv : MovedT p M w wr) (m : Tab wr B p h q vh vq) {row : Option Nat} (hg : wr.grownBy w' row) (hr : ∀ k, row = some k → w.heap.size ≤ k ∧ ¬ FootT wr p k) : MovedT p M w w' := by
  refine ⟨hg.os.trans mv.os, hg.tape.trans mv.tape, hg.output.trans mv.output, Nat.le_trans mv.size hg.size, fun k hk hf hm => ?_, fun k hk => ?_⟩
  · rw [hg.block k (Nat.lt_of_lt_of_le hk mv.size) (fun e => by have := (hr k e.symm).1; omega), mv.block k hk hf hm]
  · refine mv.foot k ?_
    have m' := m.far hg (fun k hk => (hr k hk).2)
    exact m.foot.2 (m'.foot.1 hk)
end Go.Proofs.YtjklhiifjnmedaaGreatDoor
namespace Go.Proofs.YtjklhiifjnmedaaGreatDoor
open Go.RowKit P43
attribute [local go_sem] ByteArray.mk_append_mk ByteArray.extract_mk mk_index

/-- The owners of a list of claims. -/
def idsM (l : List Cm) : List Int := l.map (·.1.id)
theorem idsM_take {l : List Cm} {k : Nat} {x : Cm} (h : l[k]? = some x) : idsM (l.take (k + 1)) = idsM (l.take k) ++ [x.1.id] := by
  unfold idsM
  rw [List.take_add_one, h]
  simp
set_option maxRecDepth 100000 in
set_option maxHeartbeats 2000000 in
theorem clWaiting (B p : Nat) (hs ws : List Cm) (vh vw : Value) (w : World) (m : Tbl w B p hs ws vh vw) (hl : ws.length ≤ 100000) :
    Calls Tryz.prog 12 #[.pointer (some ⟨p, 0, none⟩)] w fun e w' => ∃ v, e = .returned v ∧ OwnI w' w.heap.size v (idsM ws) ∧ Below w.heap.size w w' := by
  have hlenC : (Tryz.prog.info? tC).map (·.size) = some 2 := by kernel_rfl
  obtain ⟨A, c, rfl, hA⟩ := m.clsW
  have hc := m.box.cell 1
  simp at hc
  obtain ⟨n, hn⟩ : ∃ n, ws.length = n := ⟨_, rfl⟩
  rw [hn] at hc hl hA
  have HA := Lib.hid hA
  have HN := Lib.hid hn
  obtain ⟨i1, hi1', hy0, hy1, hy2⟩ := info_parts infoI
  have HI1 := Lib.hid hi1'
  have HY0 := Lib.hid hy0
  have HY1 := Lib.hid hy1
  have HY2 := Lib.hid hy2
  clear m hA hn hi1' hy0 hy1 hy2
  go_enter Tryz.func12, Tryz.ntmps12
  go_wp2
  go_loopw [3, 11] (fun ov iv wr => ∃ k : Nat, k ≤ n ∧ iv = .int .i64 k ∧ OwnI wr w.heap.size ov (idsM (ws.take k)) ∧ Below w.heap.size w wr) (fun _ iv _ => n - (intOf iv).toNat)
  case atStart => exact ⟨0, Nat.zero_le _, rfl, OwnI.nil _ _, Below.refl _ _⟩
  case round =>
    obtain ⟨k, hk, rfl, ho, hb⟩ := hrel
    have HO := Lib.hid ho
    have HB := Lib.hid hb
    have hsz := hb.size
    clear ho hb
    by_cases hlt : k < n
    · have hs := HA.out.at_.below HB.out
      obtain ⟨b, off, x, rfl, hx, x0, x1⟩ := hs.at_ hlt
      have HX := Lib.hid (idsM_take hx)
      have hlk : (idsM (ws.take k)).length ≤ 1000000 := by
        have := List.length_take_le k ws
        simp only [idsM, List.length_map]
        omega
      have HLK := Lib.hid hlk
      have hk1 : (k : Int) < (n : Int) := by omega
      have hk2 : (0 : Int) ≤ (k : Int) := by omega
      clear hs hx hlk
      go_upto_region 5 with (fail)
      obtain ⟨w2, q, e1, e2, hb2, hq⟩ := boxes1 wr tC (ca x)
      unfold ca at e1
      rw [show wr.alloc (.cells #[.int .i64 x.1.id, .map (some x.2)] 61) = w2 from e1, e2]
      have hq0 := hq.cell 0
      simp [ca] at hq0
      have hb02 := HB.out.trans (hb2.mono hsz)
      have HB2 := Lib.hid hb02
      have hsz2 := hb02.size
      have HO2 := Lib.hid (HO.out.below hb2)
      clear e1 e2 hb2 hq x0 x1 hb02 hc
      go_wp2_with (at_builtin; refine wpList_append_int rfl (.tmp 15) (.tmp 18) _ rfl w.heap.size i1 _ Tryz.underlying36 HI1.out HY0.out HY1.out HY2.out rfl _ (idsM (ws.take k)) rfl (HO2.out.alloc _) x.1.id w2.heap.size 1 rfl (World.cell?_alloc_mark w2 _ 3 (0, 0) 0) HLK.out (by simp; omega) ?_; intro v3 w3 hown3 hg3 hat3; have HO3 := Lib.hid hown3; have HG3 := Lib.hid hg3; clear hown3 hg3 hat3)
      refine ⟨⟨k + 1, hlt, by simp, by rw [HX.out]; exact HO3.out, ?_⟩, by dsimp only [intOf]; omega⟩
      exact (HB2.out.alloc hsz2 _).grown HG3.out (by simp; omega) (fun k e => (HO2.out.lt k e).1)
    · have hkn : k = n := by omega
      subst hkn
      have hk1 : ¬ (k : Int) < (k : Int) := by omega
      go_wp2
      go_ret
      have h := HO.out
      rw [← HN.out, List.take_length] at h
      exact ⟨_, rfl, h, HB.out⟩
end Go.Proofs.YtjklhiifjnmedaaGreatDoor
