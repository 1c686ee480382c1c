/- Appending a whole slice of locks, or of acts, or a nil slice, to a row of the call's own; plain theorems. -/
import Derived.Test.YtjklhiifjnmedaaGreatDoorLkDelG
import Derived.Test.YtjklhiifjnmedaaGreatDoorLkVisit
import Derived.Test.YtjklhiifjnmedaaGreatDoorLkAll
import Derived.Test.YtjklhiifjnmedaaGreatDoorLkSame
namespace Go.Proofs.YtjklhiifjnmedaaGreatDoor
open Go.RowKit P16 P46

theorem run_append_none {P : Program} (w : World) (t ty e : TypeId) (i : TypeInfo) (ht : P.underlying t = some (.slice e)) (hi : P.info? e = some i) (A : Option Addr) (n c c2 : Nat) (hn : n ≤ c) :
    (Builtin.append_ #[t, t] ty #[.slice A n c, .slice none 0 c2]).run P w = .ok (.slice A n c) w := by
  rcases A with _ | ad <;> simp [Builtin.append_, run_underlying ht, sizeOf, typeInfo, hi, Builtin.lenOf, Builtin.firstCells, storeCells, hn]
theorem wpList_append_none {P : Program} {ops : Array Oper} {rest : List Oper} {o : Oper} {a : Act} {w : World} {Q : Exit → Act → World → Prop} (hgd : o.guard = none) (s x : Operand) (t : TypeId)
    (ho : o.op = .call { callee := .builtin .append, args := #[s, x], argTypes := #[t, t] }) (e : TypeId) (i : TypeInfo) (ht : P.underlying t = some (.slice e)) (hi : P.info? e = some i)
    (A : Option Addr) (n c c2 : Nat) (hs : a.eval s = .slice A n c) (hx : a.eval x = .slice none 0 c2) (hn : n ≤ c) (h : wpList P ops Q rest (a.put o.dst (.slice A n c)) w) : wpList P ops Q (o :: rest) a w := by
  refine wpList_plain hgd fun K hK => ?_
  have hr := run_append_none (P := P) w t o.type e i ht hi A n c c2 hn
  unfold Oper.wp execOp
  simp only [ho, resolve, invoke, builtin, Sem.run_bind, Sem.run_pure, Result.andThen_ok, List.map_toArray, List.map_cons, List.map_nil, hs, hx, hr]
  exact hK _ _ h
/-- 'append(s, t...)', s a row of locks of the call's own. -/
theorem wpList_append_locks {P : Program} {w : World} {ops : Array Oper} {rest : List Oper} {o : Oper} {a : Act} {Q : Exit → Act → World → Prop} (hgd : o.guard = none) (s x : Operand) (t : TypeId)
    (ho : o.op = .call { callee := .builtin .append, args := #[s, x], argTypes := #[t, t] })
    (base : Nat) (e : TypeId) (i : TypeInfo) (z : Value) (bytes : Nat) (ht : P.underlying t = some (.slice e)) (hi : P.info? e = some i) (hz : i.zero = some z)
    (hsize : i.size = 6) (hby : i.bytes = bytes) (hzs : z.cells.size = 6) (hb6 : bytes ≤ 1000)
    (v : Value) (ls : List Lock) (hs : a.eval s = v) (hown : OwnL w base e v ls) (ms : List Lock) (A : Option Addr) (m c : Nat) (hx : a.eval x = .slice A m c) (hz0 : A = none → m = 0) (hc : LocksAt w A m ms)
    (hlen : ls.length + m ≤ 1000000) (hbase : base ≤ w.heap.size)
    (h : ∀ v' w', OwnL w' base e v' (ls ++ ms) → w.grownBy w' v.ownBlock → (v'.ownBlock = v.ownBlock ∨ v'.ownBlock = some w.heap.size) → wpList P ops Q rest (a.put o.dst v') w') :
    wpList P ops Q (o :: rest) a w := by
  cases A with
  | none =>
    have h0 := hz0 rfl
    subst h0
    have hm : ms = [] := List.eq_nil_of_length_eq_zero hc.len
    subst hm
    obtain ⟨A1, c1, rfl, -, -⟩ := hown.cells
    refine wpList_append_none hgd s x t ho e i ht hi A1 _ c1 c hs hx hown.cap ?_
    exact h _ w (by rw [List.append_nil]; exact hown) (grown_refl _ _) (.inl rfl)
  | some ad =>
    refine wpList_append_own_at (P := P) w hgd s x t ho base e i z 6 bytes ht hi hz hsize hby hzs (by omega) v ls.length _ hs hown ad m c (lcs ms) hx (by rw [lcs_length, hc.len]) ?_ (lcs_one _) (by unfold maxLen; omega) (Nat.le_trans (Nat.mul_le_mul hlen hb6) (by decide)) hbase ?_
    · intro j u hj
      obtain ⟨b', off', he, h1⟩ := hc.2 j u hj
      injection he with he
      subst he
      rw [Addr.add_lit]
      exact h1
    · intro v' w' h1 h2 h3 h4
      refine h v' w' ?_ h2 h4
      unfold OwnL
      rw [List.length_append, lcs_append, hc.len]
      exact h1
/-- 'append(s, t...)', whatever the elements. -/
theorem wpList_append_cells {P : Program} {w : World} {ops : Array Oper} {rest : List Oper} {o : Oper} {a : Act} {Q : Exit → Act → World → Prop} (hgd : o.guard = none) (s x : Operand) (t : TypeId)
    (ho : o.op = .call { callee := .builtin .append, args := #[s, x], argTypes := #[t, t] })
    (base : Nat) (e : TypeId) (i : TypeInfo) (z : Value) (size bytes : Nat) (ht : P.underlying t = some (.slice e)) (hi : P.info? e = some i) (hz : i.zero = some z)
    (hsize : i.size = size) (hby : i.bytes = bytes) (hzs : z.cells.size = size) (hsz : 0 < size) (hb6 : bytes ≤ 1000)
    (A1 : Option Addr) (n c1 : Nat) (us : List Value) (hs : a.eval s = .slice A1 n c1) (hn1 : n ≤ c1) (hown : w.ownsRow base e size (.slice A1 n c1) n us) (vs : List Value) (A : Option Addr) (m c : Nat) (hx : a.eval x = .slice A m c) (hz0 : A = none → m = 0) (hc : CellsAt w A m size vs) (h1 : ∀ u ∈ vs, u.oneCell' = true)
    (hlen : n + m ≤ 1000000) (hbase : base ≤ w.heap.size)
    (h : ∀ v' w', w'.ownsRow base e size v' (n + m) (us ++ vs) → w.grownBy w' (Value.slice A1 n c1).ownBlock → wpList P ops Q rest (a.put o.dst v') w') :
    wpList P ops Q (o :: rest) a w := by
  cases A with
  | none =>
    have h0 := hz0 rfl
    subst h0
    have hm : vs = [] := List.eq_nil_of_length_eq_zero (by rw [hc.1]; simp)
    subst hm
    refine wpList_append_none hgd s x t ho e i ht hi A1 n c1 c hs hx hn1 ?_
    exact h _ w (by rw [List.append_nil]; exact hown) (grown_refl _ _)
  | some ad =>
    refine wpList_append_own_at (P := P) w hgd s x t ho base e i z size bytes ht hi hz hsize hby hzs hsz _ n _ hs hown ad m c vs hx hc.1 ?_ h1 (by unfold maxLen; omega) (Nat.le_trans (Nat.mul_le_mul hlen hb6) (by decide)) hbase ?_
    · intro j u hj
      obtain ⟨b', off', he, h1⟩ := hc.2 j u hj
      injection he with he
      subst he
      rw [Addr.add_lit]
      exact h1
    · intro v' w' h1 h2 h3 h4
      exact h v' w' h1 h2
end Go.Proofs.YtjklhiifjnmedaaGreatDoor
