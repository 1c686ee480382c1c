/- Claims in memory: a slice that reads as a list of locks, a row of the call's own, whole locks loaded; plain theorems, no function of the program in sight. -/
import Derived.Test.YtojbddcbnnbklaaGreatDoorKit
import Derived.Test.YtojbddcbnnbklaaGreatDoorRow
import Derived.Test.YtojbddcbnnbklaaGreatDoorEnq
namespace Go.Proofs.YtojbddcbnnbklaaGreatDoor
open Go.RowKit P43

/-- A claim and the block of its map. -/
abbrev Cm := Cl × Nat
/-- The cells of a claim. -/
def cc (l : Cm) : List Value := [.int .i64 l.1.id, .map (some l.2)]
/-- .. as one struct's cells. -/
def ca (l : Cm) : Array Value := #[.int .i64 l.1.id, .map (some l.2)]
def ccs (ls : List Cm) : List Value := ls.flatMap cc
theorem ccs_nil : ccs [] = [] := rfl
theorem ccs_cons (l : Cm) (ls : List Cm) : ccs (l :: ls) = cc l ++ ccs ls := rfl
theorem ccs_append (a b : List Cm) : ccs (a ++ b) = ccs a ++ ccs b := by simp [ccs]
theorem ccs_length (ls : List Cm) : (ccs ls).length = ls.length * 2 := by
  induction ls with
  | nil => rfl
  | cons l ls ih => rw [ccs_cons, List.length_append, ih]; simp [cc]; omega
theorem ccs_get : ∀ {ls : List Cm} {k : Nat} {l : Cm}, ls[k]? = some l → ∀ j, j < 2 → (ccs ls)[k * 2 + j]? = (cc l)[j]?
  | [], k, l, h, j, hj => by simp at h
  | y :: ls, 0, l, h, j, hj => by
    simp only [List.getElem?_cons_zero, Option.some.injEq] at h
    subst h
    rw [ccs_cons, Nat.zero_mul, Nat.zero_add, List.getElem?_append_left (by simpa [cc] using hj)]
  | y :: ls, k + 1, l, h, j, hj => by
    rw [ccs_cons, List.getElem?_append_right (by simp [cc]; omega)]
    have := ccs_get (ls := ls) (k := k) (l := l) (by simpa using h) j hj
    rw [← this]
    congr 1
    simp [cc]
    omega
theorem cc_one (l : Cm) : ∀ u ∈ cc l, u.oneCell' = true := by
  intro u hu
  simp [cc] at hu
  rcases hu with rfl | rfl <;> rfl
theorem ccs_one (ls : List Cm) : ∀ u ∈ ccs ls, u.oneCell' = true := by
  intro u hu
  obtain ⟨l, _, hu⟩ := List.mem_flatMap.1 hu
  exact cc_one l u hu
/-- A lock as the program holds it. -/
def cv (l : Cm) : Value := .agg #[.int .i64 l.1.id, .map (some l.2)]

/-- The slice '.slice A n c' reads as the locks 'ls'. -/
def ClsAt (w : World) (A : Option Addr) (n : Nat) (ls : List Cm) : Prop := CellsAt w A n 2 (ccs ls)
section
variable {w w' : World} {A : Option Addr} {n c : Nat} {ls : List Cm} {B : Nat} {e : TypeId} {v : Value}
theorem ClsAt.nil : ClsAt w A 0 [] := ⟨rfl, fun j u h => by simp [ccs_nil] at h⟩
theorem ClsAt.len (h : ClsAt w A n ls) : ls.length = n := by
  have := h.1
  rw [ccs_length] at this
  omega
theorem ClsAt.below (h : ClsAt w A n ls) (hb : Below w.heap.size w w') : ClsAt w' A n ls := CellsAt.below h hb
/-- The k-th claim's cells. -/
theorem ClsAt.at_ (h : ClsAt w A n ls) {k : Nat} (hk : k < n) : ∃ b off l, A = some ⟨b, off, none⟩ ∧ ls[k]? = some l ∧ w.cell? ⟨b, off + k * 2, none⟩ = some (.int .i64 l.1.id) ∧ w.cell? ⟨b, off + k * 2 + 1, none⟩ = some (.map (some l.2)) := by
  have hl := h.len
  have hk' : k < ls.length := by omega
  have hg : ls[k]? = some ls[k] := List.getElem?_eq_getElem hk'
  have hc := fun j hj => ccs_get hg j hj
  obtain ⟨b, off, rfl, h0⟩ := h.2 (k * 2 + 0) _ (hc 0 (by omega))
  have key : ∀ j u, j < 2 → (cc ls[k])[j]? = some u → w.cell? ⟨b, off + (k * 2 + j), none⟩ = some u := by
    intro j u hj hu
    obtain ⟨b', off', he, h1⟩ := h.2 (k * 2 + j) u (by rw [hc j hj]; exact hu)
    injection he with he
    injection he with he1 he2
    subst he1 he2
    exact h1
  refine ⟨b, off, ls[k], rfl, hg, ?_, ?_⟩
  · have := key 0 _ (by omega) rfl; simpa using this
  · have := key 1 _ (by omega) rfl; rw [Nat.add_assoc]; exact this
/-- The slice value v is nil, or a row of the call's own (in a block from B on), and its elements are the locks 'ls'. -/
def OwnK (w : World) (B : Nat) (e : TypeId) (v : Value) (ls : List Cm) : Prop := w.ownsRow B e 2 v ls.length (ccs ls)
theorem OwnK.nil (w : World) (B : Nat) (e : TypeId) : OwnK w B e (.slice none 0 0) [] := World.ownsRow_nil w B e 2
theorem OwnK.alloc (h : OwnK w B e v ls) (o : Obj) : OwnK (w.alloc o) B e v ls := World.ownsRow.alloc h o
theorem OwnK.drewN (h : OwnK w B e v ls) (k : Nat) : OwnK (w.drewN k) B e v ls := h
theorem OwnK.drew (h : OwnK w B e v ls) : OwnK w.drew B e v ls := h
theorem OwnK.below (h : OwnK w B e v ls) (hb : Below w.heap.size w w') : OwnK w' B e v ls :=
  World.ownsRow.kept (row := none) h ⟨hb.os, hb.tape, hb.output, hb.size, fun k hk _ => hb.block k hk⟩ (by cases v.ownBlock <;> simp)
theorem OwnK.kept {row : Option Nat} (h : OwnK w B e v ls) (hg : w.grownBy w' row) (hne : v.ownBlock = none ∨ v.ownBlock ≠ row) : OwnK w' B e v ls := World.ownsRow.kept h hg hne
theorem OwnK.lt (h : OwnK w B e v ls) : ∀ k, v.ownBlock = some k → B ≤ k ∧ k < w.heap.size := World.ownsRow.lt h
theorem OwnK.cells (h : OwnK w B e v ls) : ∃ A c, v = .slice A ls.length c ∧ ClsAt w A ls.length ls ∧ ls.length ≤ maxLen := by
  rcases h.2 with ⟨rfl, h0⟩ | ⟨g, cap, cur, rfl, _, _, h1, h2, _⟩
  · have : ls = [] := List.eq_nil_of_length_eq_zero h0
    subst this
    exact ⟨none, 0, rfl, ClsAt.nil, Nat.zero_le _⟩
  · refine ⟨_, _, rfl, ⟨h.1, fun j u hj => ⟨g, 0, rfl, ?_⟩⟩, Nat.le_trans h1 h2⟩
    have := h.2
    have hc := World.ownsRow.cells h (g := g) rfl j u hj
    rw [Addr.add_lit] at hc
    exact hc
end

/-- A whole struct loaded from wherever its cells lie. -/
theorem run_loadVar_cells {P : Program} (w : World) (ad : Addr) (ty : TypeId) (cs : Array Value) (d : TypeDesc) (hc : ∀ j u, cs[j]? = some u → w.cell? (ad.add j) = some u)
    (hu : P.underlying ty = some d) (hd : (match d with | .struct _ | .array _ _ => true | _ => false) = true) (hi : (P.info? ty).map (·.size) = some cs.size) :
    (loadVar ty ad).run P w = .ok (.agg cs) w := by
  have hl : (loadCells ad cs.toList.length).run P w = .ok cs.toList.toArray w :=
    run_loadCells_list (P := P) w ad cs.toList (fun j v hv => hc j v (by simpa using hv))
  cases hq : P.info? ty with
  | none => simp [hq] at hi
  | some i =>
    have hs : i.size = cs.size := by simpa [hq] using hi
    have hagg : (isAgg ty).run P w = .ok true w := by
      unfold isAgg
      rw [Sem.run_bind, run_underlying hu w]
      cases d <;> simp_all
    simp only [Array.length_toList, Array.toArray_toList] at hl
    simp [loadVar, Sem.run_bind, hagg, sizeOf, typeInfo, hq, hs, hl]
theorem wpList_load_cells {P : Program} {ops : Array Oper} {rest : List Oper} {o : Oper} {a : Act} {w : World} {Q : Exit → Act → World → Prop} (hgd : o.guard = none) (ty : TypeId) (x : Operand) (ho : o.op = .load ty x)
    (ad : Addr) (hx : a.eval x = .pointer (some ad)) (cs : Array Value) (d : TypeDesc) (hc : ∀ j u, cs[j]? = some u → w.cell? (ad.add j) = some u)
    (hu : P.underlying ty = some d) (hd : (match d with | .struct _ | .array _ _ => true | _ => false) = true) (hi : (P.info? ty).map (·.size) = some cs.size)
    (h : wpList P ops Q rest (a.put o.dst (.agg cs)) w) : wpList P ops Q (o :: rest) a w := by
  refine wpList_plain hgd fun K hK => ?_
  unfold Oper.wp execOp
  simp only [ho, hx, Instr.loadAt, Instr.sureAddr, Sem.run_bind, Sem.run_pure, Result.andThen_ok, run_loadVar_cells w ad ty cs d hc hu hd hi]
  exact hK _ _ h
/-- The cells of the k-th lock of a slice, as one struct. -/
theorem ClsAt.row {w : World} {b off n : Nat} {ls : List Cm} (h : ClsAt w (some ⟨b, off, none⟩) n ls) {k : Nat} {l : Cm} (hl : ls[k]? = some l) :
    ∀ j u, (#[.int .i64 l.1.id, .map (some l.2)] : Array Value)[j]? = some u → w.cell? ((⟨b, off + k * 2, none⟩ : Addr).add j) = some u := by
  intro j u hj
  have hj2 : j < 2 := (Array.getElem?_eq_some_iff.1 hj).1
  have hu : (ccs ls)[k * 2 + j]? = some u := by
    rw [ccs_get hl j hj2]
    simpa [cc] using hj
  obtain ⟨b', off', he, h1⟩ := h.2 _ u hu
  injection he with he
  injection he with he1 he2
  subst he1 he2
  rw [Addr.add_lit]
  show w.cell? ⟨b, off + k * 2 + j, none⟩ = some u
  rw [Nat.add_assoc]
  exact h1
/-- 'append(s, l)', s a row of the call's own, l a lock in a new block. -/
theorem wpList_append_lock {P : Program} {w : World} {ops : Array Oper} {rest : List Oper} {o : Oper} {a : Act} {Q : Exit → Act → World → Prop} (hgd : o.guard = none) (s x : Operand) (t : TypeId)
    (ho : o.op = .call { callee := .builtin .append, args := #[s, x], argTypes := #[t, t] })
    (base : Nat) (e : TypeId) (i : TypeInfo) (z : Value) (bytes : Nat) (ht : P.underlying t = some (.slice e)) (hi : P.info? e = some i) (hz : i.zero = some z)
    (hsize : i.size = 2) (hby : i.bytes = bytes) (hzs : z.cells.size = 2) (hb6 : bytes ≤ 1000)
    (v : Value) (ls : List Cm) (hs : a.eval s = v) (hown : OwnK w base e v ls) (l : Cm) (b off c : Nat) (hx : a.eval x = .slice (some ⟨b, off, none⟩) 1 c) (hc : ClsAt w (some ⟨b, off, none⟩) 1 [l])
    (hlen : ls.length ≤ 1000000) (hbase : base ≤ w.heap.size)
    (h : ∀ v' w', OwnK w' base e v' (ls ++ [l]) → w.grownBy w' v.ownBlock → (v'.ownBlock = v.ownBlock ∨ v'.ownBlock = some w.heap.size) → v' ≠ .slice none 0 0 → wpList P ops Q rest (a.put o.dst v') w') :
    wpList P ops Q (o :: rest) a w := by
  refine wpList_append_own_at (P := P) w hgd s x t ho base e i z 2 bytes ht hi hz hsize hby hzs (by omega) v ls.length _ hs hown ⟨b, off, none⟩ 1 c (ccs [l]) hx (by rw [ccs_length]; rfl) ?_ (ccs_one _) (by unfold maxLen; omega) (Nat.le_trans (Nat.mul_le_mul (Nat.add_le_add_right hlen 1) hb6) (by decide)) hbase ?_
  · intro j u hj
    obtain ⟨b', off', he, h1⟩ := hc.2 j u hj
    injection he with he
    injection he with he1 he2
    subst he1 he2
    rw [Addr.add_lit]
    exact h1
  · intro v' w' h1 h2 h3 h4
    refine h v' w' ?_ h2 h4 (fun e => by have := (h3.1 e).2; omega)
    unfold OwnK
    rw [List.length_append, ccs_append]
    exact h1
/-- A lock in a new block of its own. -/
theorem ClsAt.lit1 (w : World) (e : TypeId) (l : Cm) : ClsAt (w.alloc (.cells #[.int .i64 l.1.id, .map (some l.2)] e)) (some ⟨w.heap.size, 0, none⟩) 1 [l] := by
  refine ⟨by rw [ccs_length]; rfl, fun j u hj => ⟨_, _, rfl, ?_⟩⟩
  rw [Nat.zero_add, World.cell?_alloc_mark w _ e (0, 0) j]
  simpa [ccs, cc] using hj
theorem boxes2 (w : World) (t : TypeId) (cs ds : Array Value) : ∃ (w2 : World) (p q : Nat), (w.alloc (.cells cs t)).alloc (.cells ds t) = w2 ∧ w.heap.size = p ∧ w.heap.size + 1 = q ∧ Below w.heap.size w w2 ∧ Blk w2 p t cs ∧ Blk w2 q t ds := by
  refine ⟨_, _, _, rfl, rfl, rfl, below_alloc (below_alloc (Below.refl _ _) _) _, (Blk.new w t cs).alloc _, ?_⟩
  have := Blk.new (w.alloc (.cells cs t)) t ds
  rwa [World.size_alloc] at this
theorem boxes1 (w : World) (t : TypeId) (cs : Array Value) : ∃ (w2 : World) (p : Nat), w.alloc (.cells cs t) = w2 ∧ w.heap.size = p ∧ Below w.heap.size w w2 ∧ Blk w2 p t cs :=
  ⟨_, _, rfl, rfl, below_alloc (Below.refl _ _) _, Blk.new w t cs⟩
theorem Blk.add {w : World} {p : Nat} {t : TypeId} {cs : Array Value} (h : Blk w p t cs) : ∀ j u, cs[j]? = some u → w.cell? ((⟨p, 0, none⟩ : Addr).add j) = some u := by
  intro j u hj
  rw [Addr.add_lit, Nat.zero_add, h.cell]
  exact hj
theorem ca_all (l : Cm) : (ca l).all (·.oneCell') = true := by
  rw [Array.all_eq_true_iff_forall_mem]
  intro v hv
  exact cc_one l v (by simpa [ca, cc] using hv)
end Go.Proofs.YtojbddcbnnbklaaGreatDoor
