/- slices.Delete at locks: one element is left out of a row of the caller's own. -/
import Derived.Test.YtojbddcbnnbklaaGreatDoorClFunc
import Derived.Test.YtojbddcbnnbklaaGreatDoorClRows
namespace Go.Proofs.YtojbddcbnnbklaaGreatDoor
open Go.RowKit P43
attribute [local go_sem] ByteArray.mk_append_mk ByteArray.extract_mk mk_index

/-- 'append' where there is room. -/
theorem wpList_append_room {P : Program} {ops : Array Oper} {rest : List Oper} {o : Oper} {a : Act} {w : World} {Q : Exit → Act → World → Prop} (hgd : o.guard = none) (s x : Operand) (t : TypeId)
    (ho : o.op = .call { callee := .builtin .append, args := #[s, x], argTypes := #[t, t] }) (e : TypeId) (i : TypeInfo) (size : Nat) (ht : P.underlying t = some (.slice e)) (hi : P.info? e = some i) (hsize : i.size = size)
    (b off n cap : Nat) (hs : a.eval s = .slice (some ⟨b, off, none⟩) n cap) (ad : Addr) (m c : Nat) (news : List Value) (hx : a.eval x = .slice (some ad) m c)
    (hl : news.length = m * size) (hnews : ∀ j u, news[j]? = some u → w.cell? (ad.add j) = some u) (h1 : ∀ u ∈ news, u.oneCell' = true)
    (hroom : n + m ≤ cap) (t' : TypeId) (cs : Array Value) (hb : Blk w b t' cs) (hle : off + n * size + m * size ≤ cs.size)
    (h : wpList P ops Q rest (a.put o.dst (.slice (some ⟨b, off, none⟩) (n + m) cap)) (w.setCells b (off + n * size) news)) : wpList P ops Q (o :: rest) a w := by
  subst hsize
  refine wpList_plain hgd fun K hK => ?_
  have hth := hb.there (o := off + n * i.size) (n := m * i.size) hle
  have hr := run_append_room_cells (P := P) w t o.type e i ht hi b off n cap ad m c news hl hnews h1 hroom (fun j hj => (hth j (by omega)).1) (fun j hj => (hth j (by omega)).2)
  unfold Oper.wp execOp
  simp only [ho, resolve, invoke, builtin, Sem.run_bind, Sem.run_pure, Result.andThen_ok, List.map_toArray, List.map_cons, List.map_nil, hs, hx, hr]
  exact hK _ _ h
/-- 'clear' of part of a row. -/
theorem wpList_clear_row {P : Program} {ops : Array Oper} {rest : List Oper} {o : Oper} {a : Act} {w : World} {Q : Exit → Act → World → Prop} (hgd : o.guard = none) (s : Operand) (t : TypeId)
    (ho : o.op = .call { callee := .builtin .clear, args := #[s], argTypes := #[t] }) (e : TypeId) (z : Value) (size : Nat) (ht : P.underlying t = some (.slice e)) (hv : ∀ w, (zeroValue e).run P w = .ok z w) (hz : z.cells.size = size) (h1 : ∀ v ∈ z.cells, v.oneCell' = true)
    (g off n c : Nat) (cs : Array Value) (te : TypeId) (hs : a.eval s = .slice (some ⟨g, off, none⟩) n c) (hb : Blk w g te cs) (hle : off + n * size ≤ cs.size)
    (h : ∀ zs : List Value, zs.length = n * size → wpList P ops Q rest (a.put o.dst (.tuple #[])) (w.setCells g off zs)) : wpList P ops Q (o :: rest) a w := by
  refine wpList_plain hgd fun K hK => ?_
  obtain ⟨zs, hl, hr⟩ := run_clear_row (P := P) w t e o.type z size ht hv hz h1 g off n c cs te hb hle
  unfold Oper.wp execOp
  simp only [ho, resolve, invoke, builtin, Sem.run_bind, Sem.run_pure, Result.andThen_ok, List.map_toArray, List.map_cons, List.map_nil, hs, hr]
  exact hK _ _ (h zs hl)
theorem z_one : ∀ v ∈ (Value.agg #[.int .i64 0, .map none]).cells, v.oneCell' = true := by
  intro v hv
  simp [Value.cells] at hv
  rcases hv with rfl | rfl <;> rfl
end Go.Proofs.YtojbddcbnnbklaaGreatDoor
