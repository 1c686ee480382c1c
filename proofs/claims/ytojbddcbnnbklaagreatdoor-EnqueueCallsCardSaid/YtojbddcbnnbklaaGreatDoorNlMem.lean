/- Name locks in memory: a slice that reads as a list of them, a row of the call's own; plain theorems, no function of the program in sight. -/
import Derived.Test.YtojbddcbnnbklaaGreatDoorClMem
namespace Go.Proofs.YtojbddcbnnbklaaGreatDoor
open Go.RowKit P43

/-- The cells of a claim. -/
def nc (l : (Nm × Bool)) : List Value := [.string ⟨l.1.toArray⟩, .bool l.2]
/-- .. as one struct's cells. -/
def na (l : (Nm × Bool)) : Array Value := #[.string ⟨l.1.toArray⟩, .bool l.2]
def ncs (ls : List (Nm × Bool)) : List Value := ls.flatMap nc
theorem ncs_nil : ncs [] = [] := rfl
theorem ncs_cons (l : (Nm × Bool)) (ls : List (Nm × Bool)) : ncs (l :: ls) = nc l ++ ncs ls := rfl
theorem ncs_append (a b : List (Nm × Bool)) : ncs (a ++ b) = ncs a ++ ncs b := by simp [ncs]
theorem ncs_length (ls : List (Nm × Bool)) : (ncs ls).length = ls.length * 2 := by
  induction ls with
  | nil => rfl
  | cons l ls ih => rw [ncs_cons, List.length_append, ih]; simp [nc]; omega
theorem ncs_get : ∀ {ls : List (Nm × Bool)} {k : Nat} {l : (Nm × Bool)}, ls[k]? = some l → ∀ j, j < 2 → (ncs ls)[k * 2 + j]? = (nc l)[j]?
  | [], k, l, h, j, hj => by simp at h
  | y :: ls, 0, l, h, j, hj => by
    simp only [List.getElem?_cons_zero, Option.some.injEq] at h
    subst h
    rw [ncs_cons, Nat.zero_mul, Nat.zero_add, List.getElem?_append_left (by simpa [nc] using hj)]
  | y :: ls, k + 1, l, h, j, hj => by
    rw [ncs_cons, List.getElem?_append_right (by simp [nc]; omega)]
    have := ncs_get (ls := ls) (k := k) (l := l) (by simpa using h) j hj
    rw [← this]
    congr 1
    simp [nc]
    omega
theorem nc_one (l : (Nm × Bool)) : ∀ u ∈ nc l, u.oneCell' = true := by
  intro u hu
  simp [nc] at hu
  rcases hu with rfl | rfl <;> rfl
theorem ncs_one (ls : List (Nm × Bool)) : ∀ u ∈ ncs ls, u.oneCell' = true := by
  intro u hu
  obtain ⟨l, _, hu⟩ := List.mem_flatMap.1 hu
  exact nc_one l u hu
/-- A lock as the program holds it. -/
def nv (l : (Nm × Bool)) : Value := .agg #[.string ⟨l.1.toArray⟩, .bool l.2]

/-- The slice '.slice A n c' reads as the locks 'ls'. -/
def NlsAt (w : World) (A : Option Addr) (n : Nat) (ls : List (Nm × Bool)) : Prop := CellsAt w A n 2 (ncs ls)
section
variable {w w' : World} {A : Option Addr} {n c : Nat} {ls : List (Nm × Bool)} {B : Nat} {e : TypeId} {v : Value}
theorem NlsAt.nil : NlsAt w A 0 [] := ⟨rfl, fun j u h => by simp [ncs_nil] at h⟩
theorem NlsAt.len (h : NlsAt w A n ls) : ls.length = n := by
  have := h.1
  rw [ncs_length] at this
  omega
theorem NlsAt.below (h : NlsAt w A n ls) (hb : Below w.heap.size w w') : NlsAt w' A n ls := CellsAt.below h hb
/-- The k-th claim's cells. -/
theorem NlsAt.at_ (h : NlsAt w A n ls) {k : Nat} (hk : k < n) : ∃ b off l, A = some ⟨b, off, none⟩ ∧ ls[k]? = some l ∧ w.cell? ⟨b, off + k * 2, none⟩ = some (.string ⟨l.1.toArray⟩) ∧ w.cell? ⟨b, off + k * 2 + 1, none⟩ = some (.bool l.2) := by
  have hl := h.len
  have hk' : k < ls.length := by omega
  have hg : ls[k]? = some ls[k] := List.getElem?_eq_getElem hk'
  have hc := fun j hj => ncs_get hg j hj
  obtain ⟨b, off, rfl, h0⟩ := h.2 (k * 2 + 0) _ (hc 0 (by omega))
  have key : ∀ j u, j < 2 → (nc ls[k])[j]? = some u → w.cell? ⟨b, off + (k * 2 + j), none⟩ = some u := by
    intro j u hj hu
    obtain ⟨b', off', he, h1⟩ := h.2 (k * 2 + j) u (by rw [hc j hj]; exact hu)
    injection he with he
    injection he with he1 he2
    subst he1 he2
    exact h1
  refine ⟨b, off, ls[k], rfl, hg, ?_, ?_⟩
  · have := key 0 _ (by omega) rfl; simpa using this
  · have := key 1 _ (by omega) rfl; rw [Nat.add_assoc]; exact this
/-- The slice value v is nil, or a row of the call's own (in a block from B on), and its elements are the locks 'ls'. -/
def OwnN (w : World) (B : Nat) (e : TypeId) (v : Value) (ls : List (Nm × Bool)) : Prop := w.ownsRow B e 2 v ls.length (ncs ls)
theorem OwnN.nil (w : World) (B : Nat) (e : TypeId) : OwnN w B e (.slice none 0 0) [] := World.ownsRow_nil w B e 2
theorem OwnN.alloc (h : OwnN w B e v ls) (o : Obj) : OwnN (w.alloc o) B e v ls := World.ownsRow.alloc h o
theorem OwnN.drewN (h : OwnN w B e v ls) (k : Nat) : OwnN (w.drewN k) B e v ls := h
theorem OwnN.drew (h : OwnN w B e v ls) : OwnN w.drew B e v ls := h
theorem OwnN.below (h : OwnN w B e v ls) (hb : Below w.heap.size w w') : OwnN w' B e v ls :=
  World.ownsRow.kept (row := none) h ⟨hb.os, hb.tape, hb.output, hb.size, fun k hk _ => hb.block k hk⟩ (by cases v.ownBlock <;> simp)
theorem OwnN.kept {row : Option Nat} (h : OwnN w B e v ls) (hg : w.grownBy w' row) (hne : v.ownBlock = none ∨ v.ownBlock ≠ row) : OwnN w' B e v ls := World.ownsRow.kept h hg hne
theorem OwnN.lt (h : OwnN w B e v ls) : ∀ k, v.ownBlock = some k → B ≤ k ∧ k < w.heap.size := World.ownsRow.lt h
theorem OwnN.cells (h : OwnN w B e v ls) : ∃ A c, v = .slice A ls.length c ∧ NlsAt w A ls.length ls ∧ ls.length ≤ maxLen := by
  rcases h.2 with ⟨rfl, h0⟩ | ⟨g, cap, cur, rfl, _, _, h1, h2, _⟩
  · have : ls = [] := List.eq_nil_of_length_eq_zero h0
    subst this
    exact ⟨none, 0, rfl, NlsAt.nil, Nat.zero_le _⟩
  · refine ⟨_, _, rfl, ⟨h.1, fun j u hj => ⟨g, 0, rfl, ?_⟩⟩, Nat.le_trans h1 h2⟩
    have := h.2
    have hc := World.ownsRow.cells h (g := g) rfl j u hj
    rw [Addr.add_lit] at hc
    exact hc
end

/-- The cells of the k-th lock of a slice, as one struct. -/
theorem NlsAt.row {w : World} {b off n : Nat} {ls : List (Nm × Bool)} (h : NlsAt w (some ⟨b, off, none⟩) n ls) {k : Nat} {l : (Nm × Bool)} (hl : ls[k]? = some l) :
    ∀ j u, (#[.string ⟨l.1.toArray⟩, .bool l.2] : Array Value)[j]? = some u → w.cell? ((⟨b, off + k * 2, none⟩ : Addr).add j) = some u := by
  intro j u hj
  have hj2 : j < 2 := (Array.getElem?_eq_some_iff.1 hj).1
  have hu : (ncs ls)[k * 2 + j]? = some u := by
    rw [ncs_get hl j hj2]
    simpa [nc] using hj
  obtain ⟨b', off', he, h1⟩ := h.2 _ u hu
  injection he with he
  injection he with he1 he2
  subst he1 he2
  rw [Addr.add_lit]
  show w.cell? ⟨b, off + k * 2 + j, none⟩ = some u
  rw [Nat.add_assoc]
  exact h1
/-- 'append(s, l)', s a row of the call's own, l a lock in a new block. -/
theorem wpList_append_nl {P : Program} {w : World} {ops : Array Oper} {rest : List Oper} {o : Oper} {a : Act} {Q : Exit → Act → World → Prop} (hgd : o.guard = none) (s x : Operand) (t : TypeId)
    (ho : o.op = .call { callee := .builtin .append, args := #[s, x], argTypes := #[t, t] })
    (base : Nat) (e : TypeId) (i : TypeInfo) (z : Value) (bytes : Nat) (ht : P.underlying t = some (.slice e)) (hi : P.info? e = some i) (hz : i.zero = some z)
    (hsize : i.size = 2) (hby : i.bytes = bytes) (hzs : z.cells.size = 2) (hb6 : bytes ≤ 1000)
    (v : Value) (ls : List (Nm × Bool)) (hs : a.eval s = v) (hown : OwnN w base e v ls) (l : (Nm × Bool)) (b off c : Nat) (hx : a.eval x = .slice (some ⟨b, off, none⟩) 1 c) (hc : NlsAt w (some ⟨b, off, none⟩) 1 [l])
    (hlen : ls.length ≤ 1000000) (hbase : base ≤ w.heap.size)
    (h : ∀ v' w', OwnN w' base e v' (ls ++ [l]) → w.grownBy w' v.ownBlock → (v'.ownBlock = v.ownBlock ∨ v'.ownBlock = some w.heap.size) → v' ≠ .slice none 0 0 → wpList P ops Q rest (a.put o.dst v') w') :
    wpList P ops Q (o :: rest) a w := by
  refine wpList_append_own_at (P := P) w hgd s x t ho base e i z 2 bytes ht hi hz hsize hby hzs (by omega) v ls.length _ hs hown ⟨b, off, none⟩ 1 c (ncs [l]) hx (by rw [ncs_length]; rfl) ?_ (ncs_one _) (by unfold maxLen; omega) (Nat.le_trans (Nat.mul_le_mul (Nat.add_le_add_right hlen 1) hb6) (by decide)) hbase ?_
  · intro j u hj
    obtain ⟨b', off', he, h1⟩ := hc.2 j u hj
    injection he with he
    injection he with he1 he2
    subst he1 he2
    rw [Addr.add_lit]
    exact h1
  · intro v' w' h1 h2 h3 h4
    refine h v' w' ?_ h2 h4 (fun e => by have := (h3.1 e).2; omega)
    unfold OwnN
    rw [List.length_append, ncs_append]
    exact h1
/-- A lock in a new block of its own. -/
theorem NlsAt.lit1 (w : World) (e : TypeId) (l : (Nm × Bool)) : NlsAt (w.alloc (.cells #[.string ⟨l.1.toArray⟩, .bool l.2] e)) (some ⟨w.heap.size, 0, none⟩) 1 [l] := by
  refine ⟨by rw [ncs_length]; rfl, fun j u hj => ⟨_, _, rfl, ?_⟩⟩
  rw [Nat.zero_add, World.cell?_alloc_mark w _ e (0, 0) j]
  simpa [ncs, nc] using hj
end Go.Proofs.YtojbddcbnnbklaaGreatDoor
