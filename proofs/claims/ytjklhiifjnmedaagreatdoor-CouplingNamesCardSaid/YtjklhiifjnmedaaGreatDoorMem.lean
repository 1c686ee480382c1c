/- Locks in memory: a slice that reads as a list of locks, a row of the call's own, whole locks loaded; plain theorems, no function of the program in sight. -/
import Derived.Test.YtjklhiifjnmedaaGreatDoorKit
import Derived.Test.YtjklhiifjnmedaaGreatDoorRow
import Derived.Test.YtjklhiifjnmedaaGreatDoorLocks
namespace Go.Proofs.YtjklhiifjnmedaaGreatDoor
open Go.RowKit P16 P46

/-- The cells of a lock. -/
def lc (l : Lock) : List Value := [.int .i64 l.unit, .int .i64 l.id, .string ⟨l.r.low.toArray⟩, .string ⟨l.r.high.toArray⟩, .bool l.r.e, .bool l.x]
def lcs (ls : List Lock) : List Value := ls.flatMap lc
theorem lcs_nil : lcs [] = [] := rfl
theorem lcs_cons (l : Lock) (ls : List Lock) : lcs (l :: ls) = lc l ++ lcs ls := rfl
theorem lcs_append (a b : List Lock) : lcs (a ++ b) = lcs a ++ lcs b := by simp [lcs]
theorem lcs_length (ls : List Lock) : (lcs ls).length = ls.length * 6 := by
  induction ls with
  | nil => rfl
  | cons l ls ih => rw [lcs_cons, List.length_append, ih]; simp [lc]; omega
theorem lcs_get : ∀ {ls : List Lock} {k : Nat} {l : Lock}, ls[k]? = some l → ∀ j, j < 6 → (lcs ls)[k * 6 + j]? = (lc l)[j]?
  | [], k, l, h, j, hj => by simp at h
  | y :: ls, 0, l, h, j, hj => by
    simp only [List.getElem?_cons_zero, Option.some.injEq] at h
    subst h
    rw [lcs_cons, Nat.zero_mul, Nat.zero_add, List.getElem?_append_left (by simpa [lc] using hj)]
  | y :: ls, k + 1, l, h, j, hj => by
    rw [lcs_cons, List.getElem?_append_right (by simp [lc]; omega)]
    have := lcs_get (ls := ls) (k := k) (l := l) (by simpa using h) j hj
    rw [← this]
    congr 1
    simp [lc]
    omega
theorem lc_one (l : Lock) : ∀ u ∈ lc l, u.oneCell' = true := by
  intro u hu
  simp [lc] at hu
  rcases hu with rfl | rfl | rfl | rfl | rfl | rfl <;> rfl
theorem lcs_one (ls : List Lock) : ∀ u ∈ lcs ls, u.oneCell' = true := by
  intro u hu
  obtain ⟨l, _, hu⟩ := List.mem_flatMap.1 hu
  exact lc_one l u hu
/-- A lock as the program holds it. -/
def lv (l : Lock) : Value := .agg #[.int .i64 l.unit, .int .i64 l.id, .string ⟨l.r.low.toArray⟩, .string ⟨l.r.high.toArray⟩, .bool l.r.e, .bool l.x]

/-- The slice '.slice A n c' reads as the locks 'ls'. -/
def LocksAt (w : World) (A : Option Addr) (n : Nat) (ls : List Lock) : Prop := CellsAt w A n 6 (lcs ls)
section
variable {w w' : World} {A : Option Addr} {n c : Nat} {ls : List Lock} {B : Nat} {e : TypeId} {v : Value}
theorem LocksAt.nil : LocksAt w A 0 [] := ⟨rfl, fun j u h => by simp [lcs_nil] at h⟩
theorem LocksAt.len (h : LocksAt w A n ls) : ls.length = n := by
  have := h.1
  rw [lcs_length] at this
  omega
theorem LocksAt.below (h : LocksAt w A n ls) (hb : Below w.heap.size w w') : LocksAt w' A n ls := CellsAt.below h hb
/-- The k-th lock's cells. -/
theorem LocksAt.at_ (h : LocksAt w A n ls) {k : Nat} (hk : k < n) : ∃ b off l, A = some ⟨b, off, none⟩ ∧ ls[k]? = some l ∧ w.cell? ⟨b, off + k * 6, none⟩ = some (.int .i64 l.unit) ∧ w.cell? ⟨b, off + k * 6 + 1, none⟩ = some (.int .i64 l.id) ∧ w.cell? ⟨b, off + k * 6 + 2, none⟩ = some (.string ⟨l.r.low.toArray⟩) ∧ w.cell? ⟨b, off + k * 6 + 3, none⟩ = some (.string ⟨l.r.high.toArray⟩) ∧ w.cell? ⟨b, off + k * 6 + 4, none⟩ = some (.bool l.r.e) ∧ w.cell? ⟨b, off + k * 6 + 5, none⟩ = some (.bool l.x) := by
  have hl := h.len
  have hk' : k < ls.length := by omega
  have hg : ls[k]? = some ls[k] := List.getElem?_eq_getElem hk'
  have hc := fun j hj => lcs_get hg j hj
  obtain ⟨b, off, rfl, h0⟩ := h.2 (k * 6 + 0) _ (hc 0 (by omega))
  have key : ∀ j u, j < 6 → (lc ls[k])[j]? = some u → w.cell? ⟨b, off + (k * 6 + j), none⟩ = some u := by
    intro j u hj hu
    obtain ⟨b', off', he, h1⟩ := h.2 (k * 6 + j) u (by rw [hc j hj]; exact hu)
    injection he with he
    injection he with he1 he2
    subst he1 he2
    exact h1
  refine ⟨b, off, ls[k], rfl, hg, ?_, ?_, ?_, ?_, ?_, ?_⟩
  · have := key 0 _ (by omega) rfl; simpa using this
  · have := key 1 _ (by omega) rfl; rw [Nat.add_assoc]; exact this
  · have := key 2 _ (by omega) rfl; rw [Nat.add_assoc]; exact this
  · have := key 3 _ (by omega) rfl; rw [Nat.add_assoc]; exact this
  · have := key 4 _ (by omega) rfl; rw [Nat.add_assoc]; exact this
  · have := key 5 _ (by omega) rfl; rw [Nat.add_assoc]; exact this
/-- The slice value v is nil, or a row of the call's own (in a block from B on), and its elements are the locks 'ls'. -/
def OwnL (w : World) (B : Nat) (e : TypeId) (v : Value) (ls : List Lock) : Prop := w.ownsRow B e 6 v ls.length (lcs ls)
theorem OwnL.nil (w : World) (B : Nat) (e : TypeId) : OwnL w B e (.slice none 0 0) [] := World.ownsRow_nil w B e 6
theorem OwnL.alloc (h : OwnL w B e v ls) (o : Obj) : OwnL (w.alloc o) B e v ls := World.ownsRow.alloc h o
theorem OwnL.drewN (h : OwnL w B e v ls) (k : Nat) : OwnL (w.drewN k) B e v ls := h
theorem OwnL.drew (h : OwnL w B e v ls) : OwnL w.drew B e v ls := h
theorem OwnL.below (h : OwnL w B e v ls) (hb : Below w.heap.size w w') : OwnL w' B e v ls :=
  World.ownsRow.kept (row := none) h ⟨hb.os, hb.tape, hb.output, hb.size, fun k hk _ => hb.block k hk⟩ (by cases v.ownBlock <;> simp)
theorem OwnL.kept {row : Option Nat} (h : OwnL w B e v ls) (hg : w.grownBy w' row) (hne : v.ownBlock = none ∨ v.ownBlock ≠ row) : OwnL w' B e v ls := World.ownsRow.kept h hg hne
theorem OwnL.lt (h : OwnL w B e v ls) : ∀ k, v.ownBlock = some k → B ≤ k ∧ k < w.heap.size := World.ownsRow.lt h
theorem OwnL.cells (h : OwnL w B e v ls) : ∃ A c, v = .slice A ls.length c ∧ LocksAt w A ls.length ls ∧ ls.length ≤ maxLen := by
  rcases h.2 with ⟨rfl, h0⟩ | ⟨g, cap, cur, rfl, _, _, h1, h2, _⟩
  · have : ls = [] := List.eq_nil_of_length_eq_zero h0
    subst this
    exact ⟨none, 0, rfl, LocksAt.nil, Nat.zero_le _⟩
  · refine ⟨_, _, rfl, ⟨h.1, fun j u hj => ⟨g, 0, rfl, ?_⟩⟩, Nat.le_trans h1 h2⟩
    have := h.2
    have hc := World.ownsRow.cells h (g := g) rfl j u hj
    rw [Addr.add_lit] at hc
    exact hc
end

/-- A whole struct loaded from wherever its cells lie. -/
theorem run_loadVar_cells {P : Program} (w : World) (ad : Addr) (ty : TypeId) (cs : Array Value) (d : TypeDesc) (hc : ∀ j u, cs[j]? = some u → w.cell? (ad.add j) = some u)
    (hu : P.underlying ty = some d) (hd : (match d with | .struct _ | .array _ _ => true | _ => false) = true) (hi : (P.info? ty).map (·.size) = some cs.size) :
    (loadVar ty ad).run P w = .ok (.agg cs) w := by
  have hl : (loadCells ad cs.toList.length).run P w = .ok cs.toList.toArray w :=
    run_loadCells_list (P := P) w ad cs.toList (fun j v hv => hc j v (by simpa using hv))
  cases hq : P.info? ty with
  | none => simp [hq] at hi
  | some i =>
    have hs : i.size = cs.size := by simpa [hq] using hi
    have hagg : (isAgg ty).run P w = .ok true w := by
      unfold isAgg
      rw [Sem.run_bind, run_underlying hu w]
      cases d <;> simp_all
    simp only [Array.length_toList, Array.toArray_toList] at hl
    simp [loadVar, Sem.run_bind, hagg, sizeOf, typeInfo, hq, hs, hl]
theorem wpList_load_cells {P : Program} {ops : Array Oper} {rest : List Oper} {o : Oper} {a : Act} {w : World} {Q : Exit → Act → World → Prop} (hgd : o.guard = none) (ty : TypeId) (x : Operand) (ho : o.op = .load ty x)
    (ad : Addr) (hx : a.eval x = .pointer (some ad)) (cs : Array Value) (d : TypeDesc) (hc : ∀ j u, cs[j]? = some u → w.cell? (ad.add j) = some u)
    (hu : P.underlying ty = some d) (hd : (match d with | .struct _ | .array _ _ => true | _ => false) = true) (hi : (P.info? ty).map (·.size) = some cs.size)
    (h : wpList P ops Q rest (a.put o.dst (.agg cs)) w) : wpList P ops Q (o :: rest) a w := by
  refine wpList_plain hgd fun K hK => ?_
  unfold Oper.wp execOp
  simp only [ho, hx, Instr.loadAt, Instr.sureAddr, Sem.run_bind, Sem.run_pure, Result.andThen_ok, run_loadVar_cells w ad ty cs d hc hu hd hi]
  exact hK _ _ h
/-- The cells of the k-th lock of a slice, as one struct. -/
theorem LocksAt.row {w : World} {b off n : Nat} {ls : List Lock} (h : LocksAt w (some ⟨b, off, none⟩) n ls) {k : Nat} {l : Lock} (hl : ls[k]? = some l) :
    ∀ j u, (#[.int .i64 l.unit, .int .i64 l.id, .string ⟨l.r.low.toArray⟩, .string ⟨l.r.high.toArray⟩, .bool l.r.e, .bool l.x] : Array Value)[j]? = some u → w.cell? ((⟨b, off + k * 6, none⟩ : Addr).add j) = some u := by
  intro j u hj
  have hj6 : j < 6 := (Array.getElem?_eq_some_iff.1 hj).1
  have hu : (lcs ls)[k * 6 + j]? = some u := by
    rw [lcs_get hl j hj6]
    simpa [lc] using hj
  obtain ⟨b', off', he, h1⟩ := h.2 _ u hu
  injection he with he
  injection he with he1 he2
  subst he1 he2
  rw [Addr.add_lit]
  show w.cell? ⟨b, off + k * 6 + j, none⟩ = some u
  rw [Nat.add_assoc]
  exact h1
/-- 'append(s, l)', s a row of the call's own, l a lock in a new block. -/
theorem wpList_append_lock {P : Program} {w : World} {ops : Array Oper} {rest : List Oper} {o : Oper} {a : Act} {Q : Exit → Act → World → Prop} (hgd : o.guard = none) (s x : Operand) (t : TypeId)
    (ho : o.op = .call { callee := .builtin .append, args := #[s, x], argTypes := #[t, t] })
    (base : Nat) (e : TypeId) (i : TypeInfo) (z : Value) (bytes : Nat) (ht : P.underlying t = some (.slice e)) (hi : P.info? e = some i) (hz : i.zero = some z)
    (hsize : i.size = 6) (hby : i.bytes = bytes) (hzs : z.cells.size = 6) (hb6 : bytes ≤ 1000)
    (v : Value) (ls : List Lock) (hs : a.eval s = v) (hown : OwnL w base e v ls) (l : Lock) (b off c : Nat) (hx : a.eval x = .slice (some ⟨b, off, none⟩) 1 c) (hc : LocksAt w (some ⟨b, off, none⟩) 1 [l])
    (hlen : ls.length ≤ 1000000) (hbase : base ≤ w.heap.size)
    (h : ∀ v' w', OwnL w' base e v' (ls ++ [l]) → w.grownBy w' v.ownBlock → (v'.ownBlock = v.ownBlock ∨ v'.ownBlock = some w.heap.size) → v' ≠ .slice none 0 0 → wpList P ops Q rest (a.put o.dst v') w') :
    wpList P ops Q (o :: rest) a w := by
  refine wpList_append_own_at (P := P) w hgd s x t ho base e i z 6 bytes ht hi hz hsize hby hzs (by omega) v ls.length _ hs hown ⟨b, off, none⟩ 1 c (lcs [l]) hx (by rw [lcs_length]; rfl) ?_ (lcs_one _) (by unfold maxLen; omega) (Nat.le_trans (Nat.mul_le_mul (Nat.add_le_add_right hlen 1) hb6) (by decide)) hbase ?_
  · intro j u hj
    obtain ⟨b', off', he, h1⟩ := hc.2 j u hj
    injection he with he
    injection he with he1 he2
    subst he1 he2
    rw [Addr.add_lit]
    exact h1
  · intro v' w' h1 h2 h3 h4
    refine h v' w' ?_ h2 h4 (fun e => by have := (h3.1 e).2; omega)
    unfold OwnL
    rw [List.length_append, lcs_append]
    exact h1
/-- A lock in a new block of its own. -/
theorem LocksAt.lit1 (w : World) (e : TypeId) (l : Lock) : LocksAt (w.alloc (.cells #[.int .i64 l.unit, .int .i64 l.id, .string ⟨l.r.low.toArray⟩, .string ⟨l.r.high.toArray⟩, .bool l.r.e, .bool l.x] e)) (some ⟨w.heap.size, 0, none⟩) 1 [l] := by
  refine ⟨by rw [lcs_length]; rfl, fun j u hj => ⟨_, _, rfl, ?_⟩⟩
  rw [Nat.zero_add, World.cell?_alloc_mark w _ e (0, 0) j]
  simpa [lcs, lc] using hj
end Go.Proofs.YtjklhiifjnmedaaGreatDoor
