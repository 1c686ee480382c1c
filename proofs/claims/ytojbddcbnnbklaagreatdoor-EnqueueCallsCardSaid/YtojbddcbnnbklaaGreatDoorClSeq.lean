/- blocked: the claims that conflict with one, holders and those that wait before it, yielded one after the other. -/
import Derived.RangeFuncNested
import Derived.RangeFuncBound
import Derived.RangeFuncCalls
import Derived.RangeFuncLeaves
import Derived.RangeFuncFrom
import Derived.Shelf.Abstract
import Derived.Shelf.RegionOpen
import Derived.WalkKit
import Derived.OwnWalkIn
import Derived.TacticsInMore
import Derived.LoopNIn
import Derived.LoopIn
import Derived.Test.YtojbddcbnnbklaaGreatDoorClConf
namespace Go.Proofs.YtojbddcbnnbklaaGreatDoor
open Go.RowKit P43 Go.Shelf
attribute [local go_sem] Oper.semAt_some ByteArray.mk_append_mk ByteArray.extract_mk mk_index

abbrev tC : TypeId := 76
abbrev tSl : TypeId := 60
/-- What a round may not touch: claims, slices of claims, maps below B. -/
def keepT (B k : Nat) : Obj → Bool
  | .cells _ t _ => t == tC || t == tSl
  | .map .. => decide (k < B)
  | _ => false
structure KeepT (B : Nat) (W W' : World) : Prop where
  size : W.heap.size ≤ W'.heap.size
  same : ∀ (k : Nat) (o : Obj), W.heap[k]? = some o → keepT B k o = true → W'.heap[k]? = some o
theorem KeepT.refl (B : Nat) (W : World) : KeepT B W W := ⟨Nat.le_refl _, fun _ _ h _ => h⟩
theorem KeepT.trans {N : Nat} {A B C : World} (h : KeepT N A B) (k : KeepT N B C) : KeepT N A C := ⟨Nat.le_trans h.size k.size, fun j o e t => k.same j o (h.same j o e t) t⟩
theorem KeepT.of_below {B : Nat} {W W' : World} (h : Below W.heap.size W W') : KeepT B W W' := ⟨h.size, fun k _ e _ => (h.block k (Array.getElem?_eq_some_iff.1 e).1).trans e⟩
theorem KeepT.blk {B : Nat} {W W' : World} (h : KeepT B W W') {g : Nat} {t : TypeId} {cs : Array Value} (hb : Blk W g t cs) (ht : (t == tC || t == tSl) = true) : Blk W' g t cs := h.same g _ hb ht
theorem KeepT.ns {B : Nat} {W W' : World} (h : KeepT B W W') {m : Cm} (hm : NsAt W m) (hl : m.2 < B) : NsAt W' m := by
  refine ⟨?_, hm.2⟩
  obtain ⟨D, ⟨es, clock, h0, F, hs, hD⟩, h2, h3⟩ := hm.1.own
  exact ⟨D, ⟨es, clock, h.same _ _ h0 (by simpa [keepT] using hl), F, hs, hD⟩, h2, h3⟩
/-- Claims in a row of claims, and their maps. -/
structure ClsT (B : Nat) (w : World) (A : Option Addr) (n : Nat) (ms : List Cm) : Prop where
  at_ : ClsAt w A n ms
  row : ∀ b off, A = some ⟨b, off, none⟩ → ∃ cs, Blk w b tC cs
  ns : ∀ m ∈ ms, NsAt w m
  lt : ∀ m ∈ ms, m.2 < B
theorem ClsT.keep {B : Nat} {W W' : World} (h : KeepT B W W') {A : Option Addr} {n : Nat} {ms : List Cm} (c : ClsT B W A n ms) : ClsT B W' A n ms := by
  refine ⟨⟨c.at_.1, fun j u hj => ?_⟩, fun b off e => ?_, fun m hm => h.ns (c.ns m hm) (c.lt m hm), c.lt⟩
  · obtain ⟨b, off, e, h2⟩ := c.at_.2 j u hj
    obtain ⟨cs, hb⟩ := c.row b off e
    have hb' := h.blk hb rfl
    refine ⟨b, off, e, ?_⟩
    rw [hb'.cell]
    rw [hb.cell] at h2
    exact h2
  · obtain ⟨cs, hb⟩ := c.row b off e
    exact ⟨cs, h.blk hb rfl⟩
theorem ClsT.len {B : Nat} {w : World} {A : Option Addr} {n : Nat} {ms : List Cm} (c : ClsT B w A n ms) : ms.length = n := by
  have h := c.at_.1
  rw [ccs_length] at h
  omega
/-- Those of a list that conflict with one. -/
def blkC (ms : List Cm) (c : Cm) : List Cm := ms.filter fun x => conf x.1 c.1
theorem blkC_take {ms : List Cm} {k : Nat} {x : Cm} (c : Cm) (h : ms[k]? = some x) : blkC (ms.take (k + 1)) c = if conf x.1 c.1 = true then blkC (ms.take k) c ++ [x] else blkC (ms.take k) c := by
  unfold blkC
  rw [take_snoc h, List.filter_append]
  by_cases e : conf x.1 c.1 = true <;> simp [e]
theorem blkC_prefix (ms : List Cm) (k : Nat) (c : Cm) : blkC (ms.take k) c <+: blkC ms c := by
  unfold blkC
  exact (List.take_prefix k ms).filter _
set_option maxRecDepth 100000 in
set_option maxHeartbeats 4000000 in
theorem clBlocked1 (n : Nat) (hn : 1 ≤ n) (B l p1 p2 p3 n1 c1 n2 c2 : Nat) (A1 A2 : Option Addr) (c : Cm) (ms1 ms2 : List Cm) (W : World) (J Jx : List Cm → World → Prop) (hJ : AbidesFrom W.heap.size J)
    (hY : ∀ pre x W1, J pre W1 → pre.length < (blkC ms1 c ++ blkC ms2 c).length → YieldAt Fence.wide (n - 1) Tryz.prog l #[cv x] W1 fun e W' =>
      (e = .returned (.bool true) ∧ J (pre ++ [x]) W' ∧ KeepT B W1 W') ∨ (e = .returned (.bool false) ∧ Jx (pre ++ [x]) W'))
    (h1 : Blk W p1 tSl #[.slice A1 n1 c1]) (h2 : Blk W p2 tSl #[.slice A2 n2 c2]) (h3 : Blk W p3 tC (ca c)) (hc : NsAt W c) (hcB : c.2 < B) (hm1 : ClsT B W A1 n1 ms1) (hm2 : ClsT B W A2 n2 ms2) (hn1 : n1 ≤ 1000000) (hn2 : n2 ≤ 1000000) (h0 : J [] W) :
    CallsIn Fence.wide n Tryz.prog 52 #[.func (.yield l) #[] #[], .pointer (some ⟨p1, 0, none⟩), .pointer (some ⟨p2, 0, none⟩), .pointer (some ⟨p3, 0, none⟩)] W fun e W' => (∃ v, e = .returned v) ∧
      ((∃ ys, ys = blkC ms1 c ++ blkC ms2 c ∧ J ys W') ∨ (∃ pre, pre <+: blkC ms1 c ++ blkC ms2 c ∧ Jx pre W')) := by
  refine callsIn_of_wp Tryz.func52 rfl trivial ?_ rfl
  simp only [Tryz.ntmps52, List.size_toArray, List.length_cons, List.length_nil, Nat.reduceAdd, Nat.reduceSub, Array.replicate_succ, Array.replicate_zero, List.push_toArray, List.append_toArray, List.nil_append, List.cons_append]
  have hlenC : (Tryz.prog.info? tC).map (·.size) = some 2 := by kernel_rfl
  have hb1 := h1.cell 0
  have hb2 := h2.cell 0
  simp at hb1 hb2
  have HP1 := Lib.hid (h1.alloc (.cells #[.slice A1 n1 c1, .slice A2 n2 c2] tSl))
  have HP3 := Lib.hid (h3.alloc (.cells #[.slice A1 n1 c1, .slice A2 n2 c2] tSl))
  have hk0 := KeepT.of_below (B := B) (below_alloc (Below.refl _ W) (.cells #[.slice A1 n1 c1, .slice A2 n2 c2] tSl))
  have HC := Lib.hid (hk0.ns hc hcB)
  have HM1 := Lib.hid (hm1.keep hk0)
  have HM2 := Lib.hid (hm2.keep hk0)
  have HGB := Lib.hid (Blk.new W tSl #[.slice A1 n1 c1, .slice A2 n2 c2])
  have HJ := Lib.hid hJ
  have HJ1 := Lib.hid (hJ _ _ _ none h0 (World.grownBy_alloc W (.cells #[.slice A1 n1 c1, .slice A2 n2 c2] tSl) none) (fun r e => by cases e))
  have HY := Lib.hid hY
  obtain ⟨g, hg⟩ : ∃ g, W.heap.size = g := ⟨_, rfl⟩
  rw [hg] at HGB
  have HGE := Lib.hid hg
  clear h1 h2 h3 hc hm1 hm2 h0 hk0 hJ hY
  gi_wp2
  clear hg hb1 hb2
  obtain ⟨W1, hW1⟩ : ∃ W1, W.alloc (.cells #[.slice A1 n1 c1, .slice A2 n2 c2] tSl) = W1 := ⟨_, rfl⟩
  rw [hW1] at HP1 HP3 HC HM1 HM2 HGB HJ1
  rw [show W.alloc (.cells #[.slice A1 n1 c1, .slice A2 n2 c2] 60) = W1 from hW1]
  clear hW1
  gi_loopw [13] (fun i wr => ∃ k : Nat, k ≤ 2 ∧ i = .int .i64 k ∧ J (if k = 0 then [] else if k = 1 then blkC ms1 c else blkC ms1 c ++ blkC ms2 c) wr ∧ KeepT B W1 wr) (fun i _ => 2 - (intOf i).toNat)
  case atStart => exact ⟨0, by omega, rfl, HJ1.out, KeepT.refl B _⟩
  case round =>
    obtain ⟨k, hk, rfl, hjw, hkw⟩ := hrel
    by_cases hk2 : k = 2
    · subst hk2
      gi_wp2
      go_end0
      exact ⟨⟨_, rfl⟩, .inl ⟨_, rfl, hjw⟩⟩
    · by_cases hk1 : k = 0
      · obtain rfl : k = 0 := by omega
        have HWR := Lib.hid hkw
        have HG := Lib.hid (hkw.blk HGB.out rfl)
        have hg0 := HG.out.cell 0
        have hg1 := HG.out.cell 1
        simp at hg0 hg1
        have HJ0 := Lib.hid hjw
        clear hjw hkw
        obtain ⟨wo, hwo⟩ : ∃ wo : World, wo = wr := ⟨_, rfl⟩
        rw [← hwo] at HWR HG hg0 hg1 HJ0 ⊢
        clear hwo wr
        gi_wp2
        clear hg0 hg1
        gi_loopw [19] (fun i wr => ∃ j : Nat, j ≤ n1 ∧ i = .int .i64 j ∧ J ([] ++ blkC (ms1.take j) c) wr ∧ KeepT B W1 wr) (fun i _ => n1 - (intOf i).toNat)
        case atStart => exact ⟨0, Nat.zero_le _, rfl, by simpa [blkC] using HJ0.out, HWR.out⟩
        case round =>
          obtain ⟨j, hj, rfl, hjw, hkw⟩ := hrel
          have HKW := Lib.hid hkw
          have HJW := Lib.hid hjw
          clear hjw hkw
          by_cases hlt : j < n1
          · have hcl := HM1.out.keep HKW.out
            obtain ⟨b, off, x, rfl, hx, x0, x1⟩ := hcl.at_.at_ hlt
            have HX := Lib.hid hx
            have HNX := Lib.hid (hcl.ns x (List.mem_of_getElem? hx))
            have HNC := Lib.hid (HKW.out.ns HC.out hcB)
            have HPC := Lib.hid (HKW.out.blk HP3.out rfl)
            have HLT := Lib.hid hlt
            have HBT := Lib.hid (blkC_take c hx)
            have hj0 : (0 : Int) ≤ (j : Int) := by omega
            have hj1 : (j : Int) < (n1 : Int) := by omega
            clear hcl hx
            have hp := HPC.out.alloc (.cells #[.int .i64 x.1.id, .map (some x.2)] tC)
            have q0 := hp.cell 0
            have q1 := hp.cell 1
            simp [ca] at q0 q1
            clear hp
            gi_wp2
            clear q0 q1 x0 x1
            obtain ⟨w2, q, e1, e2, hb2, hq⟩ := boxes1 wr tC (ca x)
            unfold ca at e1
            rw [show wr.alloc (.cells #[.int .i64 x.1.id, .map (some x.2)] 76) = w2 from e1, e2]
            have hcall := clConflict x c w2 (HNX.out.below hb2) (HNC.out.below hb2)
            unfold cv at hcall
            refine ⟨trivial, (callsIn_wide.2 hcall).mono ?_⟩
            rintro e w3 ⟨rfl, hb3⟩
            have hb : Below wr.heap.size wr w3 := below_then hb2 hb3
            have hq3 := hq.below hb3
            have q0 := hq3.cell 0
            have q1 := hq3.cell 1
            simp [ca] at q0 q1
            have HB := Lib.hid hb
            have HJ3 := Lib.hid (HJ.out _ _ _ none HJW.out ⟨hb.os, hb.tape, hb.output, hb.size, fun k hk _ => hb.block k hk⟩ (fun r e => by cases e))
            have hkt := Lib.hid (HKW.out.trans (KeepT.of_below hb))
            clear e1 e2 hb2 hb3 hq hq3 hcall hb
            cases hcf : conf x.1 c.1
            · gi_wp2
              refine ⟨fun _ h => (by cases h), ?_⟩
              gi_wp2
              go_roundw
              case rel => exact ⟨j + 1, hlt, by simp, by rw [HBT.out, hcf]; exact HJ3.out, hkt.out⟩
              case measure => dsimp only [intOf]; omega
            · have hlen : ([] ++ blkC (ms1.take j) c).length < (blkC ms1 c ++ blkC ms2 c).length := by
                have h1 := (blkC_prefix ms1 (j + 1) c).length_le
                rw [HBT.out, if_pos hcf, List.length_append, List.length_singleton] at h1
                simp only [List.length_append, List.length_nil]
                omega
              obtain ⟨fn, tmps, assign, body, hy, hR⟩ := HY.out _ x w3 HJ3.out hlen
              unfold cv at hy
              gi_wp2
              refine hR.mono ?_
              have h2 := HBT.out
              rw [hcf, if_pos rfl] at h2
              rintro e w4 (⟨rfl, hJ4, hk4⟩ | ⟨rfl, hJx4⟩)
              · have HJ4 := Lib.hid hJ4
                have HK4 := Lib.hid (hkt.out.trans hk4)
                clear hJ4 hk4
                gi_wp2
                go_roundw
                case rel => exact ⟨j + 1, hlt, by simp, by rw [h2, ← List.append_assoc]; exact HJ4.out, HK4.out⟩
                case measure => dsimp only [intOf]; omega
              · have HJX := Lib.hid hJx4
                clear hJx4
                gi_wp2
                refine bodyPost_ret (results_none rfl _ _ _) rfl ?_
                exact ⟨⟨_, rfl⟩, .inr ⟨_, by rw [List.nil_append, ← h2]; exact (blkC_prefix ms1 (j + 1) c).trans (List.prefix_append _ _), HJX.out⟩⟩
          · have hjn : j = n1 := by omega
            have hjl : j = ms1.length := hjn.trans HM1.out.len.symm
            have hj1 : ¬ (j : Int) < (n1 : Int) := by omega
            gi_wp2
            go_roundw
            case rel => exact ⟨1, by omega, by simp, by have h := HJW.out; rw [List.nil_append, hjl, List.take_length] at h; simpa using h, HKW.out⟩
            case measure => dsimp only [intOf]; omega
      · obtain rfl : k = 1 := by omega
        have HWR := Lib.hid hkw
        have HG := Lib.hid (hkw.blk HGB.out rfl)
        have hg0 := HG.out.cell 0
        have hg1 := HG.out.cell 1
        simp at hg0 hg1
        have HJ0 := Lib.hid hjw
        clear hjw hkw
        obtain ⟨wo, hwo⟩ : ∃ wo : World, wo = wr := ⟨_, rfl⟩
        rw [← hwo] at HWR HG hg0 hg1 HJ0 ⊢
        clear hwo wr
        gi_wp2
        clear hg0 hg1
        gi_loopw [19] (fun i wr => ∃ j : Nat, j ≤ n2 ∧ i = .int .i64 j ∧ J (blkC ms1 c ++ blkC (ms2.take j) c) wr ∧ KeepT B W1 wr) (fun i _ => n2 - (intOf i).toNat)
        case atStart => exact ⟨0, Nat.zero_le _, rfl, by simpa [blkC] using HJ0.out, HWR.out⟩
        case round =>
          obtain ⟨j, hj, rfl, hjw, hkw⟩ := hrel
          have HKW := Lib.hid hkw
          have HJW := Lib.hid hjw
          clear hjw hkw
          by_cases hlt : j < n2
          · have hcl := HM2.out.keep HKW.out
            obtain ⟨b, off, x, rfl, hx, x0, x1⟩ := hcl.at_.at_ hlt
            have HX := Lib.hid hx
            have HNX := Lib.hid (hcl.ns x (List.mem_of_getElem? hx))
            have HNC := Lib.hid (HKW.out.ns HC.out hcB)
            have HPC := Lib.hid (HKW.out.blk HP3.out rfl)
            have HLT := Lib.hid hlt
            have HBT := Lib.hid (blkC_take c hx)
            have hj0 : (0 : Int) ≤ (j : Int) := by omega
            have hj1 : (j : Int) < (n2 : Int) := by omega
            clear hcl hx
            have hp := HPC.out.alloc (.cells #[.int .i64 x.1.id, .map (some x.2)] tC)
            have q0 := hp.cell 0
            have q1 := hp.cell 1
            simp [ca] at q0 q1
            clear hp
            gi_wp2
            clear q0 q1 x0 x1
            obtain ⟨w2, q, e1, e2, hb2, hq⟩ := boxes1 wr tC (ca x)
            unfold ca at e1
            rw [show wr.alloc (.cells #[.int .i64 x.1.id, .map (some x.2)] 76) = w2 from e1, e2]
            have hcall := clConflict x c w2 (HNX.out.below hb2) (HNC.out.below hb2)
            unfold cv at hcall
            refine ⟨trivial, (callsIn_wide.2 hcall).mono ?_⟩
            rintro e w3 ⟨rfl, hb3⟩
            have hb : Below wr.heap.size wr w3 := below_then hb2 hb3
            have hq3 := hq.below hb3
            have q0 := hq3.cell 0
            have q1 := hq3.cell 1
            simp [ca] at q0 q1
            have HB := Lib.hid hb
            have HJ3 := Lib.hid (HJ.out _ _ _ none HJW.out ⟨hb.os, hb.tape, hb.output, hb.size, fun k hk _ => hb.block k hk⟩ (fun r e => by cases e))
            have hkt := Lib.hid (HKW.out.trans (KeepT.of_below hb))
            clear e1 e2 hb2 hb3 hq hq3 hcall hb
            cases hcf : conf x.1 c.1
            · gi_wp2
              refine ⟨fun _ h => (by cases h), ?_⟩
              gi_wp2
              go_roundw
              case rel => exact ⟨j + 1, hlt, by simp, by rw [HBT.out, hcf]; exact HJ3.out, hkt.out⟩
              case measure => dsimp only [intOf]; omega
            · have hlen : (blkC ms1 c ++ blkC (ms2.take j) c).length < (blkC ms1 c ++ blkC ms2 c).length := by
                have h1 := (blkC_prefix ms2 (j + 1) c).length_le
                rw [HBT.out, if_pos hcf, List.length_append, List.length_singleton] at h1
                simp only [List.length_append]
                omega
              obtain ⟨fn, tmps, assign, body, hy, hR⟩ := HY.out _ x w3 HJ3.out hlen
              unfold cv at hy
              gi_wp2
              refine hR.mono ?_
              have h2 := HBT.out
              rw [hcf, if_pos rfl] at h2
              rintro e w4 (⟨rfl, hJ4, hk4⟩ | ⟨rfl, hJx4⟩)
              · have HJ4 := Lib.hid hJ4
                have HK4 := Lib.hid (hkt.out.trans hk4)
                clear hJ4 hk4
                gi_wp2
                go_roundw
                case rel => exact ⟨j + 1, hlt, by simp, by rw [h2, ← List.append_assoc]; exact HJ4.out, HK4.out⟩
                case measure => dsimp only [intOf]; omega
              · have HJX := Lib.hid hJx4
                clear hJx4
                gi_wp2
                refine bodyPost_ret (results_none rfl _ _ _) rfl ?_
                exact ⟨⟨_, rfl⟩, .inr ⟨_, by rw [List.append_assoc, ← h2]; exact (List.prefix_append_right_inj _).2 (blkC_prefix ms2 (j + 1) c), HJX.out⟩⟩
          · have hjn : j = n2 := by omega
            have hjl : j = ms2.length := hjn.trans HM2.out.len.symm
            have hj1 : ¬ (j : Int) < (n2 : Int) := by omega
            gi_wp2
            go_roundw
            case rel => exact ⟨2, by omega, by simp, by have h := HJW.out; rw [hjl, List.take_length] at h; simpa using h, HKW.out⟩
            case measure => dsimp only [intOf]; omega
end Go.Proofs.YtojbddcbnnbklaaGreatDoor
