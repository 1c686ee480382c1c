/- The walks of slices.Index on the codes, and of form. -/
import Derived.Test.YtabpgfcmfflceaaDoorLeaf
import Derived.StillTailTactics
namespace Go.Proofs.YtabpgfcmfflceaaDoor
open Go.RowKit P12
attribute [local go_sem] ByteArray.mk_append_mk ByteArray.extract_mk mk_index

/-- The table of codes, as the program's text lays it. -/
structure Codes (w : World) : Prop where
  c0 : w.cell? ⟨0, 0, none⟩ = some (.bool false)
  c1 : w.cell? ⟨0, 1, none⟩ = some (.bool false)
  c2 : w.cell? ⟨0, 2, none⟩ = some (.bool false)
  c3 : w.cell? ⟨0, 3, none⟩ = some (.bool true)
  c4 : w.cell? ⟨0, 4, none⟩ = some (.bool true)
  c5 : w.cell? ⟨0, 5, none⟩ = some (.bool false)
  c6 : w.cell? ⟨0, 6, none⟩ = some (.bool true)
  c7 : w.cell? ⟨0, 7, none⟩ = some (.bool true)
theorem Codes.below {w w' : World} (h : Codes w) (hb : Below w.heap.size w w') : Codes w' := by
  have key : ∀ {j : Nat} {v : Value}, w.cell? ⟨0, j, none⟩ = some v → w'.cell? ⟨0, j, none⟩ = some v := fun {j v} e => by
    rw [hb.cell (p := ⟨0, j, none⟩) (World.block_lt_of_cell? w _ e)]; exact e
  exact ⟨key h.c0, key h.c1, key h.c2, key h.c3, key h.c4, key h.c5, key h.c6, key h.c7⟩
theorem eql58 (a b c d : Bool) (w : World) : (binOp .eql 58 (.agg #[.bool a, .bool b]) (.agg #[.bool c, .bool d])).run Tryd.prog w = .ok (.bool (a == c && b == d)) w := by
  cases a <;> cases b <;> cases c <;> cases d <;> kernel_rfl

theorem run_load_row_at (w : World) (ad : Addr) (ty : TypeId) (cs : List Value) (d : TypeDesc) (hg : ∀ j v, cs[j]? = some v → w.cell? (ad.add j) = some v)
    (hu : Tryd.prog.underlying ty = some d) (hd : (match d with | .struct _ | .array _ _ => true | _ => false) = true) (hi : (Tryd.prog.info? ty).map (·.size) = some cs.length) :
    (loadVar ty ad).run Tryd.prog w = .ok (.agg cs.toArray) w := by
  have hl : (loadCells ad cs.length).run Tryd.prog w = .ok cs.toArray w := run_loadCells_list (P := Tryd.prog) w ad cs hg
  cases hq : Tryd.prog.info? ty with
  | none => simp [hq] at hi
  | some i =>
    have hs : i.size = cs.length := by simpa [hq] using hi
    have hagg : (isAgg ty).run Tryd.prog w = .ok true w := by
      unfold isAgg
      rw [Sem.run_bind, run_underlying hu w]
      cases d <;> simp_all
    simp [loadVar, Sem.run_bind, hagg, sizeOf, typeInfo, hq, hs, hl]
theorem wpQuiet_load_at {ops : Array Oper} {C : World → Prop} {Q : Act → Prop} {rest : List Oper} {o : Oper} {a : Act} (hw : Region.wanted o (yielded ops a.tmps) = true) (ty : TypeId) (x : Operand) (ho : o.op = .load ty x)
    (ad : Addr) (hx : a.eval x = .pointer (some ad)) (cs : List Value) (d : TypeDesc) (hg : ∀ w, C w → ∀ j v, cs[j]? = some v → w.cell? (ad.add j) = some v)
    (hu : Tryd.prog.underlying ty = some d) (hd : (match d with | .struct _ | .array _ _ => true | _ => false) = true) (hi : (Tryd.prog.info? ty).map (·.size) = some cs.length)
    (h : wpQuiet Tryd.prog ops C Q rest (a.put o.dst (.agg cs.toArray))) : wpQuiet Tryd.prog ops C Q (o :: rest) a := by
  refine wpQuiet_step (fun K hK => ?_)
  rw [if_pos hw]
  refine ⟨.agg cs.toArray, fun w hC => ?_, hK _ h⟩
  unfold Oper.quietAt execOp
  simp only [ho, hx, Instr.loadAt, Instr.sureAddr, Sem.run_bind, Sem.run_pure, Result.andThen_ok, run_load_row_at w ad ty cs d (hg w hC) hu hd hi]
  exact ⟨rfl, rfl⟩
open Go.Sort in
theorem two_cells {w : World} {g i : Nat} {u v : Value} (h1 : w.cell? ⟨g, i, none⟩ = some u) (h2 : w.cell? ⟨g, i + 1, none⟩ = some v) (w' : World) (hw : ∃ p : Regrown, w' = grow (redrawn w p.d) p.os) :
    ∀ j x, [u, v][j]? = some x → w'.cell? ((⟨g, i, none⟩ : Addr).add j) = some x := by
  obtain ⟨p, rfl⟩ := hw
  have hb := below_regrown w p.d p.os
  intro j x hx
  match j, hx with
  | 0, hx => exact ((hb.cell (World.block_lt_of_cell? w _ h1)).trans h1).trans hx
  | 1, hx => exact ((hb.cell (World.block_lt_of_cell? w _ h2)).trans h2).trans hx

theorem wpQuiet_bin {ops : Array Oper} {C : World → Prop} {Q : Act → Prop} {rest : List Oper} {o : Oper} {a : Act} (hw : Region.wanted o (yielded ops a.tmps) = true) (k : BinOp) (ty ty' : TypeId) (x y : Operand) (ho : o.op = .binOp k ty x y ty')
    (u v : Value) (hx : a.eval x = u) (hy : a.eval y = v) (r : Value) (hr : ∀ w, (eqGuard k ty x y u v >>= fun _ => binOp k ty u v).run Tryd.prog w = .ok r w)
    (h : wpQuiet Tryd.prog ops C Q rest (a.put o.dst r)) : wpQuiet Tryd.prog ops C Q (o :: rest) a := by
  refine wpQuiet_step (fun K hK => ?_)
  rw [if_pos hw]
  refine ⟨r, fun w hC => ?_, hK _ h⟩
  unfold Oper.quietAt execOp
  have e := hr w
  rw [Sem.run_bind] at e
  simp only [ho, hx, hy, Sem.run_bind, Sem.run_pure]
  cases h1 : (eqGuard k ty x y u v).run Tryd.prog w <;> rw [h1] at e
  all_goals first | (simp only [Result.andThen] at e; simp only [Result.andThen, e]; exact ⟨rfl, rfl⟩) | (simp [Result.andThen] at e)

/-- The place of a code in the table. -/
def ixN (a b : Bool) : Nat := (if a then 2 else 0) + (if b then 1 else 0)

open Go.Sort in
set_option maxHeartbeats 1000000 in
theorem index43 (a b : Bool) (w : World) (C : Codes w) : Calls Tryd.prog 43 #[.slice (some ⟨0, 0, none⟩) 4 4, .agg #[.bool a, .bool b]] w fun e w' => e = .returned (.int .i64 (ixN a b : Nat)) ∧ Below w.heap.size w w' := by
  cases a <;> cases b
  case false.false =>
    go_enter Tryd.func43, Tryd.ntmps43
    go_wp2
    go_loopw [8] (fun i wr => ∃ k : Nat, k ≤ 0 ∧ i = .int .i64 k ∧ Below w.heap.size w wr ∧ Hid (Blk wr w.heap.size 58 #[.bool false, .bool false])) (fun i _ => 4 - (intOf i).toNat)
    case atStart => exact ⟨0, Nat.zero_le _, rfl, (Below.refl _ _).alloc (Nat.le_refl _) _, Lib.hid (Blk.new _ _ _)⟩
    case round =>
      obtain ⟨k, hk, rfl, hbw, M⟩ := hrel
      have CW := Lib.hid (C.below hbw)
      have MT := Lib.hid (two_cells (M.out.cell 0) (M.out.cell 1))
      match k, hk with
      | 0, _ =>
        have CT := Lib.hid (two_cells CW.out.c0 CW.out.c1)
        go_wp2
        refine wp_region_quiet_below (by kernel_rfl) (by kernel_rfl) ?_
        repeat (first | (refine wpQuiet_load_at rfl 58 (.tmp 3) rfl _ rfl _ _ MT.out Tryd.underlying58 rfl (by kernel_rfl) ?_) | (refine wpQuiet_load_at rfl 58 (.tmp 14) rfl _ rfl _ _ CT.out Tryd.underlying58 rfl (by kernel_rfl) ?_) | (refine wpQuiet_bin rfl .eql 58 58 (.tmp 11) (.tmp 15) rfl _ _ rfl rfl (.bool true) (fun _ => by kernel_rfl) ?_) | quiet_step (fail))
        refine wpQuiet_nil ?_
        intro w7 hw7
        obtain ⟨p, rfl⟩ := hw7
        have hb7 := below_regrown wr p.d p.os
        generalize grow (redrawn wr p.d) p.os = w7 at *
        go_wp2
        go_ret
        exact ⟨rfl, below_then_ hbw hb7⟩
  case false.true =>
    go_enter Tryd.func43, Tryd.ntmps43
    go_wp2
    go_loopw [8] (fun i wr => ∃ k : Nat, k ≤ 1 ∧ i = .int .i64 k ∧ Below w.heap.size w wr ∧ Hid (Blk wr w.heap.size 58 #[.bool false, .bool true])) (fun i _ => 4 - (intOf i).toNat)
    case atStart => exact ⟨0, Nat.zero_le _, rfl, (Below.refl _ _).alloc (Nat.le_refl _) _, Lib.hid (Blk.new _ _ _)⟩
    case round =>
      obtain ⟨k, hk, rfl, hbw, M⟩ := hrel
      have CW := Lib.hid (C.below hbw)
      have MT := Lib.hid (two_cells (M.out.cell 0) (M.out.cell 1))
      match k, hk with
      | 0, _ =>
        have CT := Lib.hid (two_cells CW.out.c0 CW.out.c1)
        go_wp2
        refine wp_region_quiet_below (by kernel_rfl) (by kernel_rfl) ?_
        repeat (first | (refine wpQuiet_load_at rfl 58 (.tmp 3) rfl _ rfl _ _ MT.out Tryd.underlying58 rfl (by kernel_rfl) ?_) | (refine wpQuiet_load_at rfl 58 (.tmp 14) rfl _ rfl _ _ CT.out Tryd.underlying58 rfl (by kernel_rfl) ?_) | (refine wpQuiet_bin rfl .eql 58 58 (.tmp 11) (.tmp 15) rfl _ _ rfl rfl (.bool false) (fun _ => by kernel_rfl) ?_) | quiet_step (fail))
        refine wpQuiet_nil ?_
        intro w7 hw7
        obtain ⟨p, rfl⟩ := hw7
        have hb7 := below_regrown wr p.d p.os
        generalize grow (redrawn wr p.d) p.os = w7 at *
        go_wp2
        go_roundw
        case rel => exact ⟨1, by omega, rfl, below_then_ hbw hb7, Lib.hid (M.out.below hb7)⟩
        case measure => simp [intOf]
      | 1, _ =>
        have CT := Lib.hid (two_cells CW.out.c2 CW.out.c3)
        go_wp2
        refine wp_region_quiet_below (by kernel_rfl) (by kernel_rfl) ?_
        repeat (first | (refine wpQuiet_load_at rfl 58 (.tmp 3) rfl _ rfl _ _ MT.out Tryd.underlying58 rfl (by kernel_rfl) ?_) | (refine wpQuiet_load_at rfl 58 (.tmp 14) rfl _ rfl _ _ CT.out Tryd.underlying58 rfl (by kernel_rfl) ?_) | (refine wpQuiet_bin rfl .eql 58 58 (.tmp 11) (.tmp 15) rfl _ _ rfl rfl (.bool true) (fun _ => by kernel_rfl) ?_) | quiet_step (fail))
        refine wpQuiet_nil ?_
        intro w7 hw7
        obtain ⟨p, rfl⟩ := hw7
        have hb7 := below_regrown wr p.d p.os
        generalize grow (redrawn wr p.d) p.os = w7 at *
        go_wp2
        go_ret
        exact ⟨rfl, below_then_ hbw hb7⟩
  case true.false =>
    go_enter Tryd.func43, Tryd.ntmps43
    go_wp2
    go_loopw [8] (fun i wr => ∃ k : Nat, k ≤ 2 ∧ i = .int .i64 k ∧ Below w.heap.size w wr ∧ Hid (Blk wr w.heap.size 58 #[.bool true, .bool false])) (fun i _ => 4 - (intOf i).toNat)
    case atStart => exact ⟨0, Nat.zero_le _, rfl, (Below.refl _ _).alloc (Nat.le_refl _) _, Lib.hid (Blk.new _ _ _)⟩
    case round =>
      obtain ⟨k, hk, rfl, hbw, M⟩ := hrel
      have CW := Lib.hid (C.below hbw)
      have MT := Lib.hid (two_cells (M.out.cell 0) (M.out.cell 1))
      match k, hk with
      | 0, _ =>
        have CT := Lib.hid (two_cells CW.out.c0 CW.out.c1)
        go_wp2
        refine wp_region_quiet_below (by kernel_rfl) (by kernel_rfl) ?_
        repeat (first | (refine wpQuiet_load_at rfl 58 (.tmp 3) rfl _ rfl _ _ MT.out Tryd.underlying58 rfl (by kernel_rfl) ?_) | (refine wpQuiet_load_at rfl 58 (.tmp 14) rfl _ rfl _ _ CT.out Tryd.underlying58 rfl (by kernel_rfl) ?_) | (refine wpQuiet_bin rfl .eql 58 58 (.tmp 11) (.tmp 15) rfl _ _ rfl rfl (.bool false) (fun _ => by kernel_rfl) ?_) | quiet_step (fail))
        refine wpQuiet_nil ?_
        intro w7 hw7
        obtain ⟨p, rfl⟩ := hw7
        have hb7 := below_regrown wr p.d p.os
        generalize grow (redrawn wr p.d) p.os = w7 at *
        go_wp2
        go_roundw
        case rel => exact ⟨1, by omega, rfl, below_then_ hbw hb7, Lib.hid (M.out.below hb7)⟩
        case measure => simp [intOf]
      | 1, _ =>
        have CT := Lib.hid (two_cells CW.out.c2 CW.out.c3)
        go_wp2
        refine wp_region_quiet_below (by kernel_rfl) (by kernel_rfl) ?_
        repeat (first | (refine wpQuiet_load_at rfl 58 (.tmp 3) rfl _ rfl _ _ MT.out Tryd.underlying58 rfl (by kernel_rfl) ?_) | (refine wpQuiet_load_at rfl 58 (.tmp 14) rfl _ rfl _ _ CT.out Tryd.underlying58 rfl (by kernel_rfl) ?_) | (refine wpQuiet_bin rfl .eql 58 58 (.tmp 11) (.tmp 15) rfl _ _ rfl rfl (.bool false) (fun _ => by kernel_rfl) ?_) | quiet_step (fail))
        refine wpQuiet_nil ?_
        intro w7 hw7
        obtain ⟨p, rfl⟩ := hw7
        have hb7 := below_regrown wr p.d p.os
        generalize grow (redrawn wr p.d) p.os = w7 at *
        go_wp2
        go_roundw
        case rel => exact ⟨2, by omega, rfl, below_then_ hbw hb7, Lib.hid (M.out.below hb7)⟩
        case measure => simp [intOf]
      | 2, _ =>
        have CT := Lib.hid (two_cells CW.out.c4 CW.out.c5)
        go_wp2
        refine wp_region_quiet_below (by kernel_rfl) (by kernel_rfl) ?_
        repeat (first | (refine wpQuiet_load_at rfl 58 (.tmp 3) rfl _ rfl _ _ MT.out Tryd.underlying58 rfl (by kernel_rfl) ?_) | (refine wpQuiet_load_at rfl 58 (.tmp 14) rfl _ rfl _ _ CT.out Tryd.underlying58 rfl (by kernel_rfl) ?_) | (refine wpQuiet_bin rfl .eql 58 58 (.tmp 11) (.tmp 15) rfl _ _ rfl rfl (.bool true) (fun _ => by kernel_rfl) ?_) | quiet_step (fail))
        refine wpQuiet_nil ?_
        intro w7 hw7
        obtain ⟨p, rfl⟩ := hw7
        have hb7 := below_regrown wr p.d p.os
        generalize grow (redrawn wr p.d) p.os = w7 at *
        go_wp2
        go_ret
        exact ⟨rfl, below_then_ hbw hb7⟩
  case true.true =>
    go_enter Tryd.func43, Tryd.ntmps43
    go_wp2
    go_loopw [8] (fun i wr => ∃ k : Nat, k ≤ 3 ∧ i = .int .i64 k ∧ Below w.heap.size w wr ∧ Hid (Blk wr w.heap.size 58 #[.bool true, .bool true])) (fun i _ => 4 - (intOf i).toNat)
    case atStart => exact ⟨0, Nat.zero_le _, rfl, (Below.refl _ _).alloc (Nat.le_refl _) _, Lib.hid (Blk.new _ _ _)⟩
    case round =>
      obtain ⟨k, hk, rfl, hbw, M⟩ := hrel
      have CW := Lib.hid (C.below hbw)
      have MT := Lib.hid (two_cells (M.out.cell 0) (M.out.cell 1))
      match k, hk with
      | 0, _ =>
        have CT := Lib.hid (two_cells CW.out.c0 CW.out.c1)
        go_wp2
        refine wp_region_quiet_below (by kernel_rfl) (by kernel_rfl) ?_
        repeat (first | (refine wpQuiet_load_at rfl 58 (.tmp 3) rfl _ rfl _ _ MT.out Tryd.underlying58 rfl (by kernel_rfl) ?_) | (refine wpQuiet_load_at rfl 58 (.tmp 14) rfl _ rfl _ _ CT.out Tryd.underlying58 rfl (by kernel_rfl) ?_) | (refine wpQuiet_bin rfl .eql 58 58 (.tmp 11) (.tmp 15) rfl _ _ rfl rfl (.bool false) (fun _ => by kernel_rfl) ?_) | quiet_step (fail))
        refine wpQuiet_nil ?_
        intro w7 hw7
        obtain ⟨p, rfl⟩ := hw7
        have hb7 := below_regrown wr p.d p.os
        generalize grow (redrawn wr p.d) p.os = w7 at *
        go_wp2
        go_roundw
        case rel => exact ⟨1, by omega, rfl, below_then_ hbw hb7, Lib.hid (M.out.below hb7)⟩
        case measure => simp [intOf]
      | 1, _ =>
        have CT := Lib.hid (two_cells CW.out.c2 CW.out.c3)
        go_wp2
        refine wp_region_quiet_below (by kernel_rfl) (by kernel_rfl) ?_
        repeat (first | (refine wpQuiet_load_at rfl 58 (.tmp 3) rfl _ rfl _ _ MT.out Tryd.underlying58 rfl (by kernel_rfl) ?_) | (refine wpQuiet_load_at rfl 58 (.tmp 14) rfl _ rfl _ _ CT.out Tryd.underlying58 rfl (by kernel_rfl) ?_) | (refine wpQuiet_bin rfl .eql 58 58 (.tmp 11) (.tmp 15) rfl _ _ rfl rfl (.bool false) (fun _ => by kernel_rfl) ?_) | quiet_step (fail))
        refine wpQuiet_nil ?_
        intro w7 hw7
        obtain ⟨p, rfl⟩ := hw7
        have hb7 := below_regrown wr p.d p.os
        generalize grow (redrawn wr p.d) p.os = w7 at *
        go_wp2
        go_roundw
        case rel => exact ⟨2, by omega, rfl, below_then_ hbw hb7, Lib.hid (M.out.below hb7)⟩
        case measure => simp [intOf]
      | 2, _ =>
        have CT := Lib.hid (two_cells CW.out.c4 CW.out.c5)
        go_wp2
        refine wp_region_quiet_below (by kernel_rfl) (by kernel_rfl) ?_
        repeat (first | (refine wpQuiet_load_at rfl 58 (.tmp 3) rfl _ rfl _ _ MT.out Tryd.underlying58 rfl (by kernel_rfl) ?_) | (refine wpQuiet_load_at rfl 58 (.tmp 14) rfl _ rfl _ _ CT.out Tryd.underlying58 rfl (by kernel_rfl) ?_) | (refine wpQuiet_bin rfl .eql 58 58 (.tmp 11) (.tmp 15) rfl _ _ rfl rfl (.bool false) (fun _ => by kernel_rfl) ?_) | quiet_step (fail))
        refine wpQuiet_nil ?_
        intro w7 hw7
        obtain ⟨p, rfl⟩ := hw7
        have hb7 := below_regrown wr p.d p.os
        generalize grow (redrawn wr p.d) p.os = w7 at *
        go_wp2
        go_roundw
        case rel => exact ⟨3, by omega, rfl, below_then_ hbw hb7, Lib.hid (M.out.below hb7)⟩
        case measure => simp [intOf]
      | 3, _ =>
        have CT := Lib.hid (two_cells CW.out.c6 CW.out.c7)
        go_wp2
        refine wp_region_quiet_below (by kernel_rfl) (by kernel_rfl) ?_
        repeat (first | (refine wpQuiet_load_at rfl 58 (.tmp 3) rfl _ rfl _ _ MT.out Tryd.underlying58 rfl (by kernel_rfl) ?_) | (refine wpQuiet_load_at rfl 58 (.tmp 14) rfl _ rfl _ _ CT.out Tryd.underlying58 rfl (by kernel_rfl) ?_) | (refine wpQuiet_bin rfl .eql 58 58 (.tmp 11) (.tmp 15) rfl _ _ rfl rfl (.bool true) (fun _ => by kernel_rfl) ?_) | quiet_step (fail))
        refine wpQuiet_nil ?_
        intro w7 hw7
        obtain ⟨p, rfl⟩ := hw7
        have hb7 := below_regrown wr p.d p.os
        generalize grow (redrawn wr p.d) p.os = w7 at *
        go_wp2
        go_ret
        exact ⟨rfl, below_then_ hbw hb7⟩
end Go.Proofs.YtabpgfcmfflceaaDoor
