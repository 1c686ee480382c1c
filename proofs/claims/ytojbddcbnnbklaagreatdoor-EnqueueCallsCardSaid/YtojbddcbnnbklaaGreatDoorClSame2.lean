/- Lists of numbers and of locks that are the same compare so (the references' Ints and SameLocks); a call ahead of a slice of calls. -/
import Derived.Test.YtojbddcbnnbklaaGreatDoorClRun
import Derived.Laws.StructEq
import Derived.Maps.AppendAt
import Derived.Deep.QuietTactic
import Derived.BigQuiet
namespace Go.Proofs.YtojbddcbnnbklaaGreatDoor
open Go.RowKit

/-- The comparison by parts (blank?, type, place). -/
def eqParts (d : Nat) (xs ys : Array Value) : List (Bool × TypeId × Nat) → Sem Bool
  | [] => pure true
  | (b, t, o) :: fs =>
    if b = false then do
      let x ← part t xs o
      let y ← part t ys o
      let r ← Op.equalIn d t x y
      if (!r) = true then pure false else eqParts d xs ys fs
    else eqParts d xs ys fs
theorem eqFields_parts (d : Nat) (xs ys : Array Value) : ∀ fs : List Field, Op.eqFields d xs ys fs = eqParts d xs ys (fs.map fun f => (decide (f.name = "_"), f.type, f.offset))
  | [] => rfl
  | f :: fs => by
    rw [List.map_cons, Op.eqFields, eqParts, eqFields_parts d xs ys fs]
    by_cases h : f.name = "_" <;> simp [h]
theorem run_eql_parts {P : Program} (w : World) (t : TypeId) (xs ys : Array Value) (ps : List (Bool × TypeId × Nat)) (ht : P.underlying t = some (.struct (P.fieldsOf t))) (hp : P.stoodInHeld t = false)
    (hf : ((P.fieldsOf t).toList.map fun f => (decide (f.name = "_"), f.type, f.offset)) = ps) (b : Bool) (hb : (eqParts 9999 xs ys ps).run P w = .ok b w) : (binOp .eql t (.agg xs) (.agg ys)).run P w = .ok (.bool b) w := by
  rw [run_eql_struct, run_equalIn_struct w 9999 t _ _ ht hp, eqFields_parts, hf, hb]
  rfl
theorem run_neq_parts {P : Program} (w : World) (t : TypeId) (xs ys : Array Value) (ps : List (Bool × TypeId × Nat)) (ht : P.underlying t = some (.struct (P.fieldsOf t))) (hp : P.stoodInHeld t = false)
    (hf : ((P.fieldsOf t).toList.map fun f => (decide (f.name = "_"), f.type, f.offset)) = ps) (b : Bool) (hb : (eqParts 9999 xs ys ps).run P w = .ok b w) : (binOp .neq t (.agg xs) (.agg ys)).run P w = .ok (.bool (!b)) w := by
  rw [run_neq_struct, run_equalIn_struct w 9999 t _ _ ht hp, eqFields_parts, hf, hb]
  rfl
end Go.Proofs.YtojbddcbnnbklaaGreatDoor
namespace Go.Proofs.YtojbddcbnnbklaaGreatDoor
open Go.RowKit P43

theorem infoO : (Tryz.prog.info? tO).map (fun i => (i.zero, i.size, i.bytes)) = some (some (.agg #[.int .i64 0, .int .i64 0, .slice none 0 0, .string ByteArray.empty]), 4, 56) := by kernel_rfl
theorem ocs_one (xs : List OpM) : ∀ u ∈ ocs xs, u.oneCell' = true := by
  intro u hu
  obtain ⟨l, _, hu⟩ := List.mem_flatMap.1 hu
  simp [oc] at hu
  rcases hu with rfl | rfl | rfl | rfl <;> rfl
theorem run_append_none {P : Program} (w : World) (t ty e : TypeId) (i : TypeInfo) (ht : P.underlying t = some (.slice e)) (hi : P.info? e = some i) (A : Option Addr) (n c c2 : Nat) (hn : n ≤ c) :
    (Builtin.append_ #[t, t] ty #[.slice A n c, .slice none 0 c2]).run P w = .ok (.slice A n c) w := by
  rcases A with _ | ad <;> simp [Builtin.append_, run_underlying ht, sizeOf, typeInfo, hi, Builtin.lenOf, Builtin.firstCells, storeCells, hn]
set_option maxRecDepth 100000 in
theorem wpList_append_ops {w0 : World} {ops : Array Oper} {rest : List Oper} {o : Oper} {a : Act} {Q : Exit → Act → World → Prop} (hgd : o.guard = none) (s x : Operand) (t : TypeId)
    (ho : o.op = .call { callee := .builtin .append, args := #[s, x], argTypes := #[t, t] }) (ht : Tryz.prog.underlying t = some (.slice tO))
    (y : OpM) (hs : a.eval s = .slice (some ⟨w0.heap.size, 0, none⟩) 1 1) (A : Option Addr) (n c : Nat) (xs : List OpM) (hx : a.eval x = .slice A n c) (hc : OpsAt w0 A n xs) (hy : OpIn w0 y) (hn : n * 56 ≤ 140737488351232)
    (h : ∀ A' c' w', OpsAt w' A' (n + 1) (y :: xs) → Below w0.heap.size w0 w' → wpList Tryz.prog ops Q rest (a.put o.dst (.slice A' (n + 1) c')) w') :
    wpList Tryz.prog ops Q (o :: rest) a (w0.alloc (.cells #[.int .i64 y.p.kind, .int .i64 y.p.owner, .slice y.A y.n y.c, .string ⟨y.p.name.toArray⟩] tO)) := by
  obtain ⟨i, hi, hz, hsize, hby⟩ := info_parts infoO
  have hb0 : Below w0.heap.size w0 (w0.alloc (.cells #[.int .i64 y.p.kind, .int .i64 y.p.owner, .slice y.A y.n y.c, .string ⟨y.p.name.toArray⟩] tO)) := below_alloc (Below.refl _ _) _
  obtain ⟨w, hw⟩ : ∃ w, w0.alloc (.cells #[.int .i64 y.p.kind, .int .i64 y.p.owner, .slice y.A y.n y.c, .string ⟨y.p.name.toArray⟩] tO) = w := ⟨_, rfl⟩
  have hblk : Blk w w0.heap.size tO (oa y) := by rw [← hw]; exact Blk.new _ _ _
  rw [hw] at hb0 ⊢
  have hown : w.ownsRow w0.heap.size tO 4 (.slice (some ⟨w0.heap.size, 0, none⟩) 1 1) 1 (oc y) := ⟨rfl, .inr ⟨_, 1, oa y, rfl, Nat.le_refl _, hblk, Nat.le_refl _, by decide, rfl, rfl⟩⟩
  have main : ∃ v' w', (Builtin.append_ #[t, t] o.type #[.slice (some ⟨w0.heap.size, 0, none⟩) 1 1, .slice A n c]).run Tryz.prog w = .ok v' w' ∧ w'.ownsRow w0.heap.size tO 4 v' (1 + n) (oc y ++ ocs xs) ∧ w.grownBy w' (some w0.heap.size) := by
    have hcb := CellsAt.below hc.cells hb0
    cases A with
    | none =>
      have hxs : xs = [] := by
        cases xs with
        | nil => rfl
        | cons q l =>
          obtain ⟨b, off, e, _⟩ := hc.cells.2 0 _ rfl
          cases e
      subst hxs
      have h0 : n = 0 := by have := hc.len; simpa using this.symm
      subst h0
      exact ⟨_, w, run_append_none w t o.type tO i ht hi _ 1 1 c (Nat.le_refl _), by rw [show ocs [] = [] from rfl, List.append_nil]; exact hown, grown_refl _ _⟩
    | some ad =>
      obtain ⟨v', w', hr', h2, h3, _, _⟩ := run_append_own_at (P := Tryz.prog) w w0.heap.size t o.type tO i _ 4 56 ht hi hz hsize hby rfl (by omega) _ 1 _ hown ad n c (ocs xs) hcb.1 (fun j u hj => by
        obtain ⟨b', off', he, h4⟩ := hcb.2 j u hj
        injection he with he
        subst he
        rw [Addr.add_lit]
        exact h4) (ocs_one xs) (by unfold maxLen; omega) (by omega) hb0.size
      exact ⟨v', w', hr', h2, h3⟩
  obtain ⟨v', w', hrun, h2, h3⟩ := main
  have hb1 : Below w0.heap.size w0 w' := hb0.grown h3 hb0.size (fun k e => by cases e; exact Nat.le_refl _)
  refine wpList_plain hgd fun K hK => ?_
  unfold Oper.wp execOp
  simp only [ho, resolve, invoke, builtin, Sem.run_bind, Sem.run_pure, Result.andThen_ok, List.map_toArray, List.map_cons, List.map_nil, hs, hx, hrun]
  obtain ⟨A', c', hv, hcells⟩ : ∃ A' c', v' = .slice A' (n + 1) c' ∧ CellsAt w' A' (n + 1) 4 (ocs (y :: xs)) := by
    rw [Nat.add_comm 1 n] at h2
    rcases h2.2 with ⟨_, h0⟩ | ⟨g, cap, cur, rfl, _, _, _, _, _⟩
    · omega
    · refine ⟨_, _, rfl, h2.1, fun j u hj => ⟨g, 0, rfl, ?_⟩⟩
      have hcc := World.ownsRow.cells h2 (g := g) rfl j u hj
      rw [Addr.add_lit] at hcc
      exact hcc
  subst hv
  refine hK _ _ (h A' c' w' ⟨hcells, fun q hq => ?_⟩ hb1)
  rcases List.mem_cons.1 hq with rfl | hq
  · exact hy.below hb1
  · exact (hc.ins q hq).below hb1
end Go.Proofs.YtojbddcbnnbklaaGreatDoor
namespace Go.Proofs.YtojbddcbnnbklaaGreatDoor
open Go.RowKit P43
attribute [local go_sem] ByteArray.mk_append_mk ByteArray.extract_mk mk_index

theorem stoodNL : Tryz.prog.stoodInHeld 51 = false := by kernel_rfl
theorem underNL : Tryz.prog.underlying 51 = some (.struct (Tryz.prog.fieldsOf 51)) := by kernel_rfl
theorem partsNL : ((Tryz.prog.fieldsOf 51).toList.map fun f => (decide (f.name = "_"), f.type, f.offset)) = [(false, 9, 0), (false, 4, 1)] := by kernel_rfl
theorem run_neq_nl (w : World) (a b : Nm × Bool) : (binOp .neq 51 (nv a) (nv b)).run Tryz.prog w = .ok (.bool (!decide (a = b))) w := by
  unfold nv
  refine run_neq_parts w 51 _ _ _ underNL stoodNL partsNL _ ?_
  obtain ⟨a1, a2⟩ := a
  obtain ⟨b1, b2⟩ := b
  by_cases h1 : a1 = b1 <;> by_cases h2 : a2 = b2 <;> simp [go_sem, eqParts, part, h1, h2]
theorem run_eqGuard_nl (w : World) (op : BinOp) (x y : Operand) (a b : Nm × Bool) : (eqGuard op 51 x y (nv a) (nv b)).run Tryz.prog w = .ok () w :=
  run_eqGuard_agg w op 51 x y _ _ (by kernel_rfl)
set_option maxRecDepth 100000 in
set_option maxHeartbeats 1000000 in
theorem sameInts (B1 B2 : Nat) (v1 v2 : Value) (xs : List Int) (w : World) (h1 : OwnI w B1 v1 xs) (h2 : OwnI w B2 v2 xs) :
    Calls Tryz.prog 11 #[v1, v2] w fun e w' => e = .returned (.bool true) ∧ Below w.heap.size w w' := by
  obtain ⟨A1, c1, rfl, hl, -⟩ := h1.at_
  obtain ⟨A2, c2, rfl, -, -⟩ := h2.at_
  obtain ⟨n, hn⟩ : ∃ n, xs.length = n := ⟨_, rfl⟩
  rw [hn] at h1 h2 hl ⊢
  have H1 := Lib.hid h1
  have H2 := Lib.hid h2
  have HN := Lib.hid hn
  have hn63 : n ≤ 9223372036854775807 := by unfold maxLen at hl; omega
  clear h1 h2 hl hn
  go_enter Tryz.func11, Tryz.ntmps11
  go_wp2
  go_loopw [5] (fun i wr => ∃ k : Nat, k ≤ n ∧ i = .int .i64 k ∧ Below w.heap.size w wr) (fun i _ => n - (intOf i).toNat)
  case atStart => exact ⟨0, Nat.zero_le _, rfl, Below.refl _ _⟩
  case round =>
    obtain ⟨k, hk, rfl, hbw⟩ := hrel
    by_cases hlt : k < n
    · obtain ⟨x, hx⟩ : ∃ x, xs[k]? = some x := ⟨_, List.getElem?_eq_getElem (by rw [HN.out]; exact hlt)⟩
      obtain ⟨A3, c3, e3, -, hat3⟩ := (H1.out.below hbw).at_
      obtain ⟨A4, c4, e4, -, hat4⟩ := (H2.out.below hbw).at_
      injection e3 with e31 e32 e33
      injection e4 with e41 e42 e43
      subst e31 e41
      obtain ⟨b3, hA3, x0⟩ := hat3 k x hx
      obtain ⟨b4, hA4, y0⟩ := hat4 k x hx
      subst hA3 hA4
      have i0 : (0 : Int) ≤ (k : Int) := by omega
      have i1 : (k : Int) < (n : Int) := by omega
      clear hx hat3 hat4 e32 e33 e42 e43
      go_upto_region 6 with (fail)
      go_quiet (fail)
      have HB := Lib.hid (hbw.trans ((below_drewN (Below.refl wr.heap.size wr) nq).mono hbw.size))
      generalize wr.drewN nq = w6 at HB ⊢
      clear x0 y0 i0 i1
      have b0 : (x != x) = false := by simp
      go_wp2
      go_roundw
      case rel => exact ⟨k + 1, by omega, by go_num, HB.out⟩
      case measure => simp [intOf]; omega
    · have hkn : k = n := by omega
      subst hkn
      go_wp2
      go_ret
      exact ⟨rfl, hbw⟩
set_option maxRecDepth 100000 in
set_option maxHeartbeats 1000000 in
theorem sameLocks (B1 B2 : Nat) (v1 v2 : Value) (xs : List (Nm × Bool)) (w : World) (h1 : OwnN w B1 tNL v1 xs) (h2 : OwnN w B2 tNL v2 xs) :
    Calls Tryz.prog 16 #[v1, v2] w fun e w' => e = .returned (.bool true) ∧ Below w.heap.size w w' := by
  obtain ⟨A1, c1, rfl, h1, hl⟩ := h1.cells
  obtain ⟨A2, c2, rfl, h2, -⟩ := h2.cells
  obtain ⟨n, hn⟩ : ∃ n, xs.length = n := ⟨_, rfl⟩
  rw [hn] at h1 h2 hl ⊢
  have H1 := Lib.hid h1
  have H2 := Lib.hid h2
  have hn63 : n ≤ 9223372036854775807 := by unfold maxLen at hl; omega
  have hlen : (Tryz.prog.info? tNL).map (·.size) = some 2 := by kernel_rfl
  clear h1 h2 hl hn
  go_enter Tryz.func16, Tryz.ntmps16
  go_wp2
  go_loopw [5] (fun i wr => ∃ k : Nat, k ≤ n ∧ i = .int .i64 k ∧ Below w.heap.size w wr) (fun i _ => n - (intOf i).toNat)
  case atStart => exact ⟨0, Nat.zero_le _, rfl, Below.refl _ _⟩
  case round =>
    obtain ⟨k, hk, rfl, hbw⟩ := hrel
    by_cases hlt : k < n
    · obtain ⟨b1, o1, x, rfl, hx, x0, x1⟩ := (H1.out.below hbw).at_ hlt
      obtain ⟨b2, o2, y, rfl, hy, y0, y1⟩ := (H2.out.below hbw).at_ hlt
      obtain rfl : x = y := by rw [hx] at hy; exact Option.some.inj hy
      have i0 : (0 : Int) ≤ (k : Int) := by omega
      have i1 : (k : Int) < (n : Int) := by omega
      have heq := fun w => run_neq_nl w x x
      have hgd := fun w op a b => run_eqGuard_nl w op a b x x
      simp only [decide_true, Bool.not_true] at heq
      unfold nv at heq hgd
      clear hx hy
      go_upto_region 6 with (fail)
      go_quiet (fail)
      have HB := Lib.hid (hbw.trans ((below_drewN (Below.refl wr.heap.size wr) nq).mono hbw.size))
      generalize wr.drewN nq = w6 at HB ⊢
      clear x0 y0 i0 i1 x1 y1 heq hgd
      go_wp2
      go_roundw
      case rel => exact ⟨k + 1, by omega, by go_num, HB.out⟩
      case measure => simp [intOf]; omega
    · have hkn : k = n := by omega
      subst hkn
      go_wp2
      go_ret
      exact ⟨rfl, hbw⟩
theorem few_of {xs : List OpM} {n : Nat} (hl : xs.length = n) {most : Nat} (h : fewO xs most = true) : xs.all shortO = true ∧ n ≤ most := by
  unfold fewO at h
  simp only [Bool.and_eq_true, decide_eq_true_eq] at h
  exact ⟨h.1, by omega⟩
/-- The cells of a call in a box. -/
theorem obox {w : World} {g : Nat} {a : OpM} (h : Blk w g tO (oa a)) : w.cell? ⟨g, 0, none⟩ = some (.int .i64 a.p.kind) ∧ w.cell? ⟨g, 1, none⟩ = some (.int .i64 a.p.owner) ∧ w.cell? ⟨g, 2, none⟩ = some (.slice a.A a.n a.c) ∧ w.cell? ⟨g, 3, none⟩ = some (.string ⟨a.p.name.toArray⟩) := ⟨h.cell 0, h.cell 1, h.cell 2, h.cell 3⟩
theorem orow {w : World} {b off n : Nat} {xs : List OpM} (h : OpsAt w (some ⟨b, off, none⟩) n xs) {k : Nat} {a : OpM} (hl : xs[k]? = some a) :
    ∀ (j : Nat) (u : Value), (#[.int .i64 a.p.kind, .int .i64 a.p.owner, .slice a.A a.n a.c, .string ⟨a.p.name.toArray⟩] : Array Value)[j]? = some u → w.cell? ((⟨b, off + k * 4, none⟩ : Addr).add j) = some u := h.row hl
theorem obox1 (w : World) (a : OpM) : ∃ (w2 : World) (p : Nat), w.alloc (.cells #[.int .i64 a.p.kind, .int .i64 a.p.owner, .slice a.A a.n a.c, .string ⟨a.p.name.toArray⟩] 32) = w2 ∧ w.heap.size = p ∧ Below w.heap.size w w2 ∧ Blk w2 p tO (oa a) := boxes1 w tO (oa a)
theorem nbox1 (w : World) (q : P43.Nm × Bool) : ∃ (w2 : World) (p : Nat), w.alloc (.cells #[.string ⟨q.1.toArray⟩, .bool q.2] 51) = w2 ∧ w.heap.size = p ∧ Below w.heap.size w w2 ∧ Blk w2 p tNL (na q) := boxes1 w tNL (na q)
theorem lens40 {xs : List OpM} (hs : xs.all shortO = true) (k : Nat) : (runP validB (opsP (xs.take k))).hs.length + (runP validB (opsP (xs.take k))).ws.length ≤ xs.length := by
  have h1 := Good.lens (good_ops (short_take hs k))
  have h2 : (opsP (xs.take k)).length ≤ xs.length := by
    unfold opsP
    rw [List.length_map, List.length_take]
    omega
  omega
theorem TT.up {w : World} {B B' p : Nat} {t : T} {F : Nat → Prop} (h : TT w B p t F) (hB : B' ≤ B) : TT w B' p t F := by
  obtain ⟨hs, ws, vh, vw, m, e, hF⟩ := h
  exact ⟨hs, ws, vh, vw, ⟨⟨m.box, Nat.le_trans hB m.base, World.ownsRow.mono m.held hB, World.ownsRow.mono m.wait hB, m.apart⟩, ⟨m.maps.ns, fun x hx => Nat.le_trans hB (m.maps.lo x hx), m.maps.nd⟩⟩, e, hF⟩
theorem clWaitT (B p : Nat) (t : T) (F : Nat → Prop) (w : World) (m : TT w B p t F) (hl : t.hs.length + t.ws.length ≤ 100000) :
    Calls Tryz.prog 12 #[.pointer (some ⟨p, 0, none⟩)] w fun e w' => ∃ v, e = .returned v ∧ OwnI w' w.heap.size v (ids t.ws) ∧ Below w.heap.size w w' := by
  obtain ⟨hs, ws, vh, vw, mT, rfl, hF⟩ := m
  have := clWaiting B p hs ws vh vw w mT (by simp [fstT] at hl; omega)
  rw [← ids_idsM] at this
  exact this
end Go.Proofs.YtojbddcbnnbklaaGreatDoor
