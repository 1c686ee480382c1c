/- Segments in memory: a slice that reads as a list of segments, a row of the call's own; plain theorems, no function of the program in sight. -/
import Derived.Test.YtabpgfcmfflceaaDoorKit
import Derived.Test.YtabpgfcmfflceaaDoorRow
import Derived.Test.YtabpgfcmfflceaaDoorBlocks
namespace Go.Proofs.YtabpgfcmfflceaaDoor
open Go.RowKit P12

/-- The cells of a segment. -/
def sc (l : Seg) : List Value := [.bool l.b, .bool l.a, .string ⟨l.d.toArray⟩]
def scs (ls : List Seg) : List Value := ls.flatMap sc
theorem scs_nil : scs [] = [] := rfl
theorem scs_cons (l : Seg) (ls : List Seg) : scs (l :: ls) = sc l ++ scs ls := rfl
theorem scs_append (a b : List Seg) : scs (a ++ b) = scs a ++ scs b := by simp [scs]
theorem scs_length (ls : List Seg) : (scs ls).length = ls.length * 3 := by
  induction ls with
  | nil => rfl
  | cons l ls ih => rw [scs_cons, List.length_append, ih]; simp [sc]; omega
theorem scs_get : ∀ {ls : List Seg} {k : Nat} {l : Seg}, ls[k]? = some l → ∀ j, j < 3 → (scs ls)[k * 3 + j]? = (sc l)[j]?
  | [], k, l, h, j, hj => by simp at h
  | y :: ls, 0, l, h, j, hj => by
    simp only [List.getElem?_cons_zero, Option.some.injEq] at h
    subst h
    rw [scs_cons, Nat.zero_mul, Nat.zero_add, List.getElem?_append_left (by simpa [sc] using hj)]
  | y :: ls, k + 1, l, h, j, hj => by
    rw [scs_cons, List.getElem?_append_right (by simp [sc]; omega)]
    have := scs_get (ls := ls) (k := k) (l := l) (by simpa using h) j hj
    rw [← this]
    congr 1
    simp [sc]
    omega
theorem sc_one (l : Seg) : ∀ u ∈ sc l, u.oneCell' = true := by
  intro u hu
  simp [sc] at hu
  rcases hu with rfl | rfl | rfl <;> rfl
theorem scs_one (ls : List Seg) : ∀ u ∈ scs ls, u.oneCell' = true := by
  intro u hu
  obtain ⟨l, _, hu⟩ := List.mem_flatMap.1 hu
  exact sc_one l u hu
/-- A segment as the program holds it. -/
def sv (l : Seg) : Value := .agg #[.bool l.b, .bool l.a, .string ⟨l.d.toArray⟩]

/-- The slice '.slice A n c' reads as the segments 'ls'. -/
def SegsAt (w : World) (A : Option Addr) (n : Nat) (ls : List Seg) : Prop := CellsAt w A n 3 (scs ls)
section
variable {w w' : World} {A : Option Addr} {n c : Nat} {ls : List Seg} {B : Nat} {e : TypeId} {v : Value}
theorem SegsAt.nil : SegsAt w A 0 [] := ⟨rfl, fun j u h => by simp [scs_nil] at h⟩
theorem SegsAt.len (h : SegsAt w A n ls) : ls.length = n := by
  have := h.1
  rw [scs_length] at this
  omega
theorem SegsAt.below (h : SegsAt w A n ls) (hb : Below w.heap.size w w') : SegsAt w' A n ls := CellsAt.below h hb
/-- The k-th segment's cells. -/
theorem SegsAt.at_ (h : SegsAt w A n ls) {k : Nat} (hk : k < n) : ∃ b off l, A = some ⟨b, off, none⟩ ∧ ls[k]? = some l ∧ w.cell? ⟨b, off + k * 3, none⟩ = some (.bool l.b) ∧ w.cell? ⟨b, off + k * 3 + 1, none⟩ = some (.bool l.a) ∧ w.cell? ⟨b, off + k * 3 + 2, none⟩ = some (.string ⟨l.d.toArray⟩) := by
  have hl := h.len
  have hk' : k < ls.length := by omega
  have hg : ls[k]? = some ls[k] := List.getElem?_eq_getElem hk'
  have hc := fun j hj => scs_get hg j hj
  obtain ⟨b, off, rfl, h0⟩ := h.2 (k * 3 + 0) _ (hc 0 (by omega))
  have key : ∀ j u, j < 3 → (sc ls[k])[j]? = some u → w.cell? ⟨b, off + (k * 3 + j), none⟩ = some u := by
    intro j u hj hu
    obtain ⟨b', off', he, h1⟩ := h.2 (k * 3 + j) u (by rw [hc j hj]; exact hu)
    injection he with he
    injection he with he1 he2
    subst he1 he2
    exact h1
  refine ⟨b, off, ls[k], rfl, hg, ?_, ?_, ?_⟩
  · have := key 0 _ (by omega) rfl; simpa using this
  · have := key 1 _ (by omega) rfl; rw [Nat.add_assoc]; exact this
  · have := key 2 _ (by omega) rfl; rw [Nat.add_assoc]; exact this
/-- The slice value v is nil, or a row of the call's own (in a block from B on), and its elements are the segments 'ls'. -/
def OwnG (w : World) (B : Nat) (e : TypeId) (v : Value) (ls : List Seg) : Prop := w.ownsRow B e 3 v ls.length (scs ls)
theorem OwnG.nil (w : World) (B : Nat) (e : TypeId) : OwnG w B e (.slice none 0 0) [] := World.ownsRow_nil w B e 3
theorem OwnG.alloc (h : OwnG w B e v ls) (o : Obj) : OwnG (w.alloc o) B e v ls := World.ownsRow.alloc h o
theorem OwnG.drewN (h : OwnG w B e v ls) (k : Nat) : OwnG (w.drewN k) B e v ls := h
theorem OwnG.drew (h : OwnG w B e v ls) : OwnG w.drew B e v ls := h
theorem OwnG.below (h : OwnG w B e v ls) (hb : Below w.heap.size w w') : OwnG w' B e v ls :=
  World.ownsRow.kept (row := none) h ⟨hb.os, hb.tape, hb.output, hb.size, fun k hk _ => hb.block k hk⟩ (by cases v.ownBlock <;> simp)
theorem OwnG.kept {row : Option Nat} (h : OwnG w B e v ls) (hg : w.grownBy w' row) (hne : v.ownBlock = none ∨ v.ownBlock ≠ row) : OwnG w' B e v ls := World.ownsRow.kept h hg hne
theorem OwnG.lt (h : OwnG w B e v ls) : ∀ k, v.ownBlock = some k → B ≤ k ∧ k < w.heap.size := World.ownsRow.lt h
theorem OwnG.cells (h : OwnG w B e v ls) : ∃ A c, v = .slice A ls.length c ∧ SegsAt w A ls.length ls ∧ ls.length ≤ maxLen := by
  rcases h.2 with ⟨rfl, h0⟩ | ⟨g, cap, cur, rfl, _, _, h1, h2, _⟩
  · have : ls = [] := List.eq_nil_of_length_eq_zero h0
    subst this
    exact ⟨none, 0, rfl, SegsAt.nil, Nat.zero_le _⟩
  · refine ⟨_, _, rfl, ⟨h.1, fun j u hj => ⟨g, 0, rfl, ?_⟩⟩, Nat.le_trans h1 h2⟩
    have := h.2
    have hc := World.ownsRow.cells h (g := g) rfl j u hj
    rw [Addr.add_lit] at hc
    exact hc
end

/-- A whole struct loaded from wherever its cells lie. -/
theorem run_loadVar_cells {P : Program} (w : World) (ad : Addr) (ty : TypeId) (cs : Array Value) (d : TypeDesc) (hc : ∀ j u, cs[j]? = some u → w.cell? (ad.add j) = some u)
    (hu : P.underlying ty = some d) (hd : (match d with | .struct _ | .array _ _ => true | _ => false) = true) (hi : (P.info? ty).map (·.size) = some cs.size) :
    (loadVar ty ad).run P w = .ok (.agg cs) w := by
  have hl : (loadCells ad cs.toList.length).run P w = .ok cs.toList.toArray w :=
    run_loadCells_list (P := P) w ad cs.toList (fun j v hv => hc j v (by simpa using hv))
  cases hq : P.info? ty with
  | none => simp [hq] at hi
  | some i =>
    have hs : i.size = cs.size := by simpa [hq] using hi
    have hagg : (isAgg ty).run P w = .ok true w := by
      unfold isAgg
      rw [Sem.run_bind, run_underlying hu w]
      cases d <;> simp_all
    simp only [Array.length_toList, Array.toArray_toList] at hl
    simp [loadVar, Sem.run_bind, hagg, sizeOf, typeInfo, hq, hs, hl]
theorem wpList_load_cells {P : Program} {ops : Array Oper} {rest : List Oper} {o : Oper} {a : Act} {w : World} {Q : Exit → Act → World → Prop} (hgd : o.guard = none) (ty : TypeId) (x : Operand) (ho : o.op = .load ty x)
    (ad : Addr) (hx : a.eval x = .pointer (some ad)) (cs : Array Value) (d : TypeDesc) (hc : ∀ j u, cs[j]? = some u → w.cell? (ad.add j) = some u)
    (hu : P.underlying ty = some d) (hd : (match d with | .struct _ | .array _ _ => true | _ => false) = true) (hi : (P.info? ty).map (·.size) = some cs.size)
    (h : wpList P ops Q rest (a.put o.dst (.agg cs)) w) : wpList P ops Q (o :: rest) a w := by
  refine wpList_plain hgd fun K hK => ?_
  unfold Oper.wp execOp
  simp only [ho, hx, Instr.loadAt, Instr.sureAddr, Sem.run_bind, Sem.run_pure, Result.andThen_ok, run_loadVar_cells w ad ty cs d hc hu hd hi]
  exact hK _ _ h
/-- The cells of the k-th segment of a slice, as one struct. -/
theorem SegsAt.row {w : World} {b off n : Nat} {ls : List Seg} (h : SegsAt w (some ⟨b, off, none⟩) n ls) {k : Nat} {l : Seg} (hl : ls[k]? = some l) :
    ∀ j u, (#[.bool l.b, .bool l.a, .string ⟨l.d.toArray⟩] : Array Value)[j]? = some u → w.cell? ((⟨b, off + k * 3, none⟩ : Addr).add j) = some u := by
  intro j u hj
  have hj3 : j < 3 := (Array.getElem?_eq_some_iff.1 hj).1
  have hu : (scs ls)[k * 3 + j]? = some u := by
    rw [scs_get hl j hj3]
    simpa [sc] using hj
  obtain ⟨b', off', he, h1⟩ := h.2 _ u hu
  injection he with he
  injection he with he1 he2
  subst he1 he2
  rw [Addr.add_lit]
  show w.cell? ⟨b, off + k * 3 + j, none⟩ = some u
  rw [Nat.add_assoc]
  exact h1
/-- 'append(s, l)', s a row of the call's own, l a segment in a new block. -/
theorem wpList_append_seg {P : Program} {w : World} {ops : Array Oper} {rest : List Oper} {o : Oper} {a : Act} {Q : Exit → Act → World → Prop} (hgd : o.guard = none) (s x : Operand) (t : TypeId)
    (ho : o.op = .call { callee := .builtin .append, args := #[s, x], argTypes := #[t, t] })
    (base : Nat) (e : TypeId) (i : TypeInfo) (z : Value) (bytes : Nat) (ht : P.underlying t = some (.slice e)) (hi : P.info? e = some i) (hz : i.zero = some z)
    (hsize : i.size = 3) (hby : i.bytes = bytes) (hzs : z.cells.size = 3) (hb6 : bytes ≤ 1000)
    (v : Value) (ls : List Seg) (hs : a.eval s = v) (hown : OwnG w base e v ls) (l : Seg) (b off c : Nat) (hx : a.eval x = .slice (some ⟨b, off, none⟩) 1 c) (hc : SegsAt w (some ⟨b, off, none⟩) 1 [l])
    (hlen : ls.length ≤ 1000000) (hbase : base ≤ w.heap.size)
    (h : ∀ v' w', OwnG w' base e v' (ls ++ [l]) → w.grownBy w' v.ownBlock → (v'.ownBlock = v.ownBlock ∨ v'.ownBlock = some w.heap.size) → v' ≠ .slice none 0 0 → wpList P ops Q rest (a.put o.dst v') w') :
    wpList P ops Q (o :: rest) a w := by
  refine wpList_append_own_at (P := P) w hgd s x t ho base e i z 3 bytes ht hi hz hsize hby hzs (by omega) v ls.length _ hs hown ⟨b, off, none⟩ 1 c (scs [l]) hx (by rw [scs_length]; rfl) ?_ (scs_one _) (by unfold maxLen; omega) (Nat.le_trans (Nat.mul_le_mul (Nat.add_le_add_right hlen 1) hb6) (by decide)) hbase ?_
  · intro j u hj
    obtain ⟨b', off', he, h1⟩ := hc.2 j u hj
    injection he with he
    injection he with he1 he2
    subst he1 he2
    rw [Addr.add_lit]
    exact h1
  · intro v' w' h1 h2 h3 h4
    refine h v' w' ?_ h2 h4 (fun e => by have := (h3.1 e).2; omega)
    unfold OwnG
    rw [List.length_append, scs_append]
    exact h1
/-- A segment in a new block of its own. -/
theorem SegsAt.lit1 (w : World) (e : TypeId) (l : Seg) : SegsAt (w.alloc (.cells #[.bool l.b, .bool l.a, .string ⟨l.d.toArray⟩] e)) (some ⟨w.heap.size, 0, none⟩) 1 [l] := by
  refine ⟨by rw [scs_length]; rfl, fun j u hj => ⟨_, _, rfl, ?_⟩⟩
  rw [Nat.zero_add, World.cell?_alloc_mark w _ e (0, 0) j]
  simpa [scs, sc] using hj
end Go.Proofs.YtabpgfcmfflceaaDoor
