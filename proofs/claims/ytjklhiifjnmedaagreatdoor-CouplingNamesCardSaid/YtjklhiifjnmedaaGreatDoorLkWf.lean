/- waitsFor: the units for which a unit waits, as a set, or nil. -/
import Derived.Test.YtjklhiifjnmedaaGreatDoorLkBlk
import Derived.Test.YtjklhiifjnmedaaGreatDoorLkWaits
import Derived.StillTailTactics
namespace Go.Proofs.YtjklhiifjnmedaaGreatDoor
open Go.RowKit P16 P46
attribute [local go_sem] ByteArray.mk_append_mk ByteArray.extract_mk mk_index

theorem wpStill_load_cells {P : Program} {ops : Array Oper} {w : World} {Q : Act → Prop} {rest : List Oper} {o : Oper} {a : Act} (hw : Region.wanted o (yielded ops a.tmps) = true) (ty : TypeId) (x : Operand) (ho : o.op = .load ty x)
    (ad : Addr) (hx : a.eval x = .pointer (some ad)) (cs : Array Value) (d : TypeDesc) (hc : ∀ j u, cs[j]? = some u → w.cell? (ad.add j) = some u)
    (hu : P.underlying ty = some d) (hd : (match d with | .struct _ | .array _ _ => true | _ => false) = true) (hi : (P.info? ty).map (·.size) = some cs.size)
    (h : wpStill P ops w Q rest (a.put o.dst (.agg cs))) : wpStill P ops w Q (o :: rest) a := by
  refine wpStill_step (fun K hK => ?_)
  rw [if_pos hw]
  unfold Oper.still execOp
  simp only [ho, hx, Instr.loadAt, Instr.sureAddr, Sem.run_bind, Sem.run_pure, Result.andThen_ok, run_loadVar_cells w ad ty cs d hc hu hd hi]
  exact ⟨rfl, hK _ h⟩
/-- The value v is a nil map, or a new one, and its keys are those of l. -/
def SetV (w : World) (B n : Nat) (v : Value) (l : List Int) : Prop := (v = .map none ∧ l = []) ∨ ∃ b k, v = .map (some b) ∧ SetM w Tryz.prog 3 4 b k (inL l) ∧ k ≤ n ∧ B ≤ b
theorem OwnL.cap {w : World} {B : Nat} {e : TypeId} {A : Option Addr} {n c : Nat} {ls : List Lock} (h : OwnL w B e (.slice A n c) ls) : n ≤ c := by
  rcases h.2 with ⟨h1, _⟩ | ⟨g, cap, cur, h1, _, _, h2, _⟩
  · injection h1 with _ h3 h4
    omega
  · injection h1 with _ h3 h4
    omega
theorem LocksAt.take {w : World} {A : Option Addr} {n : Nat} {ls : List Lock} (h : LocksAt w A n ls) {k : Nat} (hk : k ≤ n) : LocksAt w A k (ls.take k) := by
  have hl := h.len
  refine ⟨by rw [lcs_length, List.length_take]; omega, fun j u hj => h.2 j u ?_⟩
  have e : lcs ls = lcs (ls.take k) ++ lcs (ls.drop k) := by rw [← lcs_append, List.take_append_drop]
  rw [e, List.getElem?_append_left (List.getElem?_eq_some_iff.1 hj).1]
  exact hj
set_option maxRecDepth 100000 in
set_option maxHeartbeats 1000000 in
theorem lkWaitsFor_none (u : Int) (B p : Nat) (h q : List Lock) (vh vq : Value) (w : World) (m : Mgr w B p h q vh vq) (hq : q.length ≤ 1000000) (hi : idx q u = none) :
    Calls Tryz.prog 98 #[.pointer (some ⟨p, 0, none⟩), .int .i64 u] w fun e w' => e = .returned (.map none) ∧ Below w.heap.size w w' := by
  have HM := Lib.hid m
  have HI := Lib.hid (show fIdx (fun l => decide (l.unit = u)) q = -1 from by rw [fIdx_idx, hi])
  clear m hi
  go_enter Tryz.func98, Tryz.ntmps98
  go_wp2_with fail
  refine (lkWaiting u B p h q vh vq _ HM.out hq).mono ?_
  rintro e w2 ⟨rfl, hb2⟩
  rw [HI.out]
  go_wp2
  go_ret
  exact ⟨rfl, hb2⟩
set_option maxRecDepth 100000 in
set_option maxHeartbeats 1000000 in
theorem lkWaitsFor_some (u : Int) (B p : Nat) (h q : List Lock) (vh vq : Value) (w : World) (m : Mgr w B p h q vh vq) (hh : h.length ≤ 1000000) (hq : q.length ≤ 1000000) (hv : Valids ⟨h, q⟩) (i : Nat) (l : Lock) (hi : idx q u = some i) (hl : q[i]? = some l) :
    Calls Tryz.prog 98 #[.pointer (some ⟨p, 0, none⟩), .int .i64 u] w fun e w' => ∃ b k, e = .returned (.map (some b)) ∧ SetM w' Tryz.prog 3 4 b k (inL (blks h (q.take i) l)) ∧ k ≤ h.length + q.length ∧ w.heap.size ≤ b ∧ Below w.heap.size w w' := by
  have HM := Lib.hid m
  have HI := Lib.hid (show fIdx (fun l => decide (l.unit = u)) q = i from by rw [fIdx_idx, hi])
  have hlt : i < q.length := (List.getElem?_eq_some_iff.1 hl).1
  have HLL := Lib.hid hl
  have HHH := Lib.hid hh
  have HVV := Lib.hid hv
  clear m hi hl hh hv
  go_enter Tryz.func98, Tryz.ntmps98
  go_wp2_with fail
  refine (lkWaiting u B p h q vh vq _ HM.out hq).mono ?_
  rintro e w2 ⟨rfl, hb2⟩
  rw [HI.out]
  have HB := Lib.hid hb2
  clear hb2
  obtain ⟨A, c, rfl, hs, -⟩ := HM.out.queue.cells
  have HM2 := Lib.hid (HM.out.below HB.out)
  have hs2 := hs.below HB.out
  obtain ⟨b, off, l2, rfl, hl2, -⟩ := hs2.at_ hlt
  have hll : l2 = l := by
    have := HLL.out
    rw [hl2] at this
    injection this
  subst hll
  have HR := Lib.hid (hs2.row hl2)
  have HT := Lib.hid (hs2.take (Nat.le_of_lt hlt))
  obtain ⟨n, hn⟩ : ∃ n, q.length = n := ⟨_, rfl⟩
  have HN := Lib.hid hn
  have hc := HM2.out.box.cell 1
  have hcap : n ≤ c := by
    have := HM2.out.queue.cap
    omega
  simp [hn] at hc
  rw [hn] at hlt hq
  clear hs hs2 hl2 hn
  have hlenL : (Tryz.prog.info? 46).map (·.size) = some 6 := by kernel_rfl
  go_wp2
  have hi0 : (0 : Int) ≤ (i : Int) := by omega
  have hi1 : (i : Int) ≤ (c : Int) := by omega
  go_still_tail 14, (by kernel_rfl)
  refine wpStill_load_cells rfl 46 (.tmp 17) rfl ⟨b, off + i * 6, none⟩ rfl (la l2) _ (by exact HR.out) Tryz.underlying46 rfl hlenL ?_
  repeat still_step
  try refine wpStill_nil ?_
  go_wp2_with fail
  refine (lkBlockers l2 _ i _ (q.take i) B p h q vh _ _ (HM2.out.below (below_drewN (Below.refl _ _) 1)) HHH.out (HT.out.below (below_drewN (Below.refl _ _) 1)) (by omega) HVV.out.1 (fun y hy => HVV.out.2 y (List.mem_of_mem_take hy))).mono ?_
  rintro e w3 ⟨bm, k, rfl, hs3, hk3, hb3, hlo⟩
  have HS := Lib.hid hs3
  have HB3 := Lib.hid (HB.out.trans ((below_then (below_drewN (Below.refl w2.heap.size w2) 1) hb3).mono HB.out.size))
  have HLO : Hid (w.heap.size ≤ bm) := Lib.hid (Nat.le_trans HB.out.size hlo)
  clear hs3 hb3 hlo
  go_wp2
  go_ret
  exact ⟨bm, k, rfl, HS.out, by rw [HN.out]; omega, HLO.out, HB3.out⟩
end Go.Proofs.YtjklhiifjnmedaaGreatDoor
