/- A map from int to bool that is used as a set: made by the call, looked up, added to, counted; plain theorems, no function of the program in sight. -/
import Derived.Test.YtjklhiifjnmedaaGreatDoorKit
import Derived.Maps.OwnSet
import Derived.Maps.RangeWalk
namespace Go.Proofs.YtjklhiifjnmedaaGreatDoor
open Go.RowKit Go.Maps

/-- Block b is a map from int (type kt) to bool (type et) of at most n entries; its keys are those of S, each with the value true. -/
structure SetM (w : World) (P : Program) (kt et : TypeId) (b n : Nat) (S : Int → Bool) : Prop where
  own : ∃ D : DataW Unit, w.ownsMap P kt (plainElem P et) b n D ∧ (∀ a, has D (.int .i64 a) = S a) ∧ ∀ a z, S a = true → D.atKey (.int .i64 a) z = .lit (.bool true)
section
variable {P : Program} {w w' : World} {kt et : TypeId} {b n : Nat} {S : Int → Bool}
theorem isKey_int (a : Int) : WideAt.IsKeyLit (.int .i64 a) := by simp [WideAt.IsKeyLit]
theorem SetM.made (w : World) (P : Program) (kt et : TypeId) : SetM (w.alloc (.map #[] 0)) P kt et w.heap.size 0 (fun _ => false) :=
  ⟨.map [], World.ownsMap_made _ _ _ _, fun _ => rfl, fun _ _ h => by cases h⟩
theorem SetM.lt (h : SetM w P kt et b n S) : b < w.heap.size := by
  obtain ⟨D, h1, _⟩ := h.own
  exact h1.lt
theorem SetM.kept {row : Option Nat} (h : SetM w P kt et b n S) (hg : w.grownBy w' row) (hne : some b ≠ row) : SetM w' P kt et b n S := by
  obtain ⟨D, h1, h2, h3⟩ := h.own
  exact ⟨D, h1.kept hg hne, h2, h3⟩
theorem SetM.below (h : SetM w P kt et b n S) (hb : Below w.heap.size w w') : SetM w' P kt et b n S :=
  h.kept (row := none) ⟨hb.os, hb.tape, hb.output, hb.size, fun k hk _ => hb.block k hk⟩ (by simp)
theorem SetM.mono (h : SetM w P kt et b n S) {m : Nat} (hm : n ≤ m) : SetM w P kt et b m S := by
  obtain ⟨D, h1, h2, h3⟩ := h.own
  exact ⟨D, h1.mono hm, h2, h3⟩
theorem SetM.alloc (h : SetM w P kt et b n S) (o : Obj) : SetM (w.alloc o) P kt et b n S := h.kept (World.grownBy_alloc w o none) (by simp)
theorem SetM.drew (h : SetM w P kt et b n S) : SetM w.drew P kt et b n S := by
  obtain ⟨D, h1, h2, h3⟩ := h.own
  exact ⟨D, h1, h2, h3⟩
/-- The keys are ints. -/
theorem ownsMap_ints {R : Value → Option (DataW Unit × List MemPlace)} {D : DataW Unit} (h : w.ownsMap P kt R b n D) (hk : P.underlying kt = some (.int .i64)) : ∃ es, D = .map es ∧ ∀ p ∈ es, ∃ a, p.1 = .int .i64 a ∧ (Lit.int .i64 a).wf = true := by
  obtain ⟨es, clock, hb, F, hs, rfl⟩ := h
  refine ⟨_, rfl, fun p hp => ?_⟩
  have hp' := (mem_sorted (l := es.toList.map (WideElems.rg P kt R))).1 hp
  obtain ⟨v, hv⟩ := fit_keys F p hp'
  obtain ⟨x, _, e, hw⟩ := Maps.keyOf_int_inv hk hv
  exact ⟨x, e, hw⟩
theorem SetM.size_zero (hk : P.underlying kt = some (.int .i64)) {D : DataW Unit} (h1 : w.ownsMap P kt (plainElem P et) b n D) (h2 : ∀ a, has D (.int .i64 a) = S a) : Maps.size D = 0 ↔ ∀ a, S a = false := by
  obtain ⟨es, rfl, he⟩ := ownsMap_ints h1 hk
  rw [size_eq]
  constructor
  · intro h a
    rw [← h2, List.eq_nil_of_length_eq_zero h]
    rfl
  · intro h
    cases es with
    | nil => rfl
    | cons p es =>
      obtain ⟨a, ha, _⟩ := he p (by simp)
      have := h2 a
      rw [h a, has_eq, List.any_cons, ha] at this
      simp [Lit.sameKey] at this
/-- 'm[k]'. -/
theorem wpList_set_look {ops : Array Oper} {rest : List Oper} {o : Oper} {a : Act} {Q : Exit → Act → World → Prop} (hg : o.guard = none) (m x : Operand) (t : TypeId) (hop : o.op = Op.lookup t m x false)
    (ht : P.underlying t = some (.map kt et)) (hk : P.underlying kt = some (.int .i64)) (he : P.underlying et = some .bool) (hz : (zeroValue et).run P w = .ok (.bool false) w)
    (hm : a.eval m = .map (some b)) (hs : SetM w P kt et b n S) (u : Int) (hu : (Lit.int .i64 u).wf = true) (hx : a.eval x = .int .i64 u)
    (hK : wpList P ops Q rest (a.put o.dst (.bool (S u))) w) : wpList P ops Q (o :: rest) a w := by
  refine wpList_plain hg fun K' hK' => ?_
  obtain ⟨D, h1, h2, h3⟩ := hs.own
  obtain ⟨v, ps, hrun, hv⟩ := h1.lookup (int_keyed hk) ht hz (plainElem_bool he false) (keyOf_int_mk hk hu)
  have hval : v = .bool (S u) := by
    cases hS : S u
    · have hn : has D (.int .i64 u) = false := by rw [h2, hS]
      rw [atKey_of_not_has hn] at hv
      unfold plainElem at hv
      rw [he] at hv
      cases v <;> simp at hv
      rw [hv.1]
    · rw [h3 u _ hS] at hv
      unfold plainElem at hv
      rw [he] at hv
      cases v <;> simp at hv
      rw [hv.1]
  subst hval
  unfold Oper.wp
  simp [execOp, hop, hm, hx, hrun, Result.andThen]
  exact hK' _ _ hK
/-- 'm[k] = true'. -/
theorem wpList_set_add {ops : Array Oper} {rest : List Oper} {o : Oper} {a : Act} {Q : Exit → Act → World → Prop} (hg : o.guard = none) (m x v : Operand) (t : TypeId) (hop : o.op = Op.mapUpdate t m x v)
    (ht : P.underlying t = some (.map kt et)) (hk : P.underlying kt = some (.int .i64)) (he : P.underlying et = some .bool)
    (hm : a.eval m = .map (some b)) (hs : SetM w P kt et b n S) (hn : n < maxLen) (u : Int) (hu : (Lit.int .i64 u).wf = true) (hx : a.eval x = .int .i64 u) (hv : a.eval v = .bool true)
    (hK : ∀ w', SetM w' P kt et b (n + 1) (fun y => S y || decide (y = u)) → w.grownBy w' (some b) → wpList P ops Q rest (a.put o.dst undef) w') : wpList P ops Q (o :: rest) a w := by
  obtain ⟨D, h1, h2, h3⟩ := hs.own
  refine wpList_mapUpdate_own w hg m x v t hop kt et (int_keyed hk) ht (plainElem P et) b n D hm h1 hn _ _ (.int .i64 u) hx hv (keyOf_int_mk hk hu) (.lit (.bool true)) [] (plainElem_bool he true) ?_
  intro w' hown hgr
  refine hK w' ⟨D.put (.int .i64 u) (.lit (.bool true)), hown, fun y => ?_, fun y z hy => ?_⟩ hgr
  · by_cases hyu : y = u
    · subst hyu
      rw [has_put_same h1.isMap (isKey_int y)]
      simp
    · rw [has_put_other (by simpa using hyu), h2]
      simp [hyu]
  · by_cases hyu : y = u
    · subst hyu
      exact atKey_put_same h1.isMap (isKey_int y) _ _
    · rw [atKey_put_other (by simpa using hyu)]
      exact h3 y z (by simpa [hyu] using hy)
/-- 'len(m)': zero exactly if there is no key. -/
theorem wpList_set_len {ops : Array Oper} {rest : List Oper} {o : Oper} {a : Act} {Q : Exit → Act → World → Prop} (hg : o.guard = none) (m : Operand) (t : TypeId) (hop : o.op = Op.call { callee := Callee.builtin Builtin.len, args := #[m], argTypes := #[t] })
    (ht : P.underlying t = some (.map kt et)) (hk : P.underlying kt = some (.int .i64)) (hm : a.eval m = .map (some b)) (hs : SetM w P kt et b n S)
    (hK : ∀ k : Nat, k ≤ n → (k = 0 ↔ ∀ a, S a = false) → wpList P ops Q rest (a.put o.dst (.int .i64 k)) w) : wpList P ops Q (o :: rest) a w := by
  obtain ⟨D, h1, h2, h3⟩ := hs.own
  exact wpList_len_own w hg m t hop kt et ht (plainElem P et) b n D hm h1 (hK _ h1.size_le (SetM.size_zero hk h1 h2))
/-- 'for k := range m' under way: 'left' tells which keys are still to come, cnt how many. -/
structure SetR (w : World) (P : Program) (kt et : TypeId) (b r n : Nat) (S left : Int → Bool) (cnt : Nat) : Prop where
  own : ∃ (D : DataW Unit) (lf : Lit → Bool), w.ranges P kt (plainElem P et) b r n D lf cnt ∧ (∀ a, has D (.int .i64 a) = S a) ∧ (∀ a z, S a = true → D.atKey (.int .i64 a) z = .lit (.bool true)) ∧ (∀ a, lf (.int .i64 a) = left a) ∧ ∀ a, left a = true → S a = true
theorem SetR.set {r : Nat} {left : Int → Bool} {cnt : Nat} (h : SetR w P kt et b r n S left cnt) : SetM w P kt et b n S := by
  obtain ⟨D, lf, h1, h2, h3, _⟩ := h.own
  exact ⟨D, h1.owns, h2, h3⟩
theorem SetR.kept {r : Nat} {left : Int → Bool} {cnt : Nat} {row : Option Nat} (h : SetR w P kt et b r n S left cnt) (hg : w.grownBy w' row) (hb : some b ≠ row) (hr : some r ≠ row) : SetR w' P kt et b r n S left cnt := by
  obtain ⟨D, lf, h1, h2⟩ := h.own
  exact ⟨D, lf, h1.kept hg hb hr, h2⟩
theorem SetR.lt {r : Nat} {left : Int → Bool} {cnt : Nat} (h : SetR w P kt et b r n S left cnt) : b < w.heap.size ∧ r < w.heap.size ∧ r ≠ b := by
  obtain ⟨D, lf, h1, _⟩ := h.own
  exact ⟨h1.owns.lt, h1.lt, h1.ne⟩
theorem SetR.below {r : Nat} {left : Int → Bool} {cnt : Nat} (h : SetR w P kt et b r n S left cnt) (hb : Below w.heap.size w w') : SetR w' P kt et b r n S left cnt :=
  h.kept (row := none) ⟨hb.os, hb.tape, hb.output, hb.size, fun k hk _ => hb.block k hk⟩ (by simp) (by simp)
theorem SetR.count {r : Nat} {left : Int → Bool} {cnt : Nat} (h : SetR w P kt et b r n S left cnt) : w.rangeLeft b r = cnt := by
  obtain ⟨D, lf, h1, _⟩ := h.own
  exact h1.left_eq
/-- 'range m'. -/
theorem wpList_set_range {ops : Array Oper} {rest : List Oper} {o : Oper} {a : Act} {Q : Exit → Act → World → Prop} (hg : o.guard = none) (m : Operand) (t : TypeId) (hop : o.op = Op.range t m)
    (ht : P.underlying t = some (.map kt et)) (hk : P.underlying kt = some (.int .i64)) (hm : a.eval m = .map (some b)) (hs : SetM w P kt et b n S)
    (hK : ∀ w' cnt, SetR w' P kt et b w.heap.size n S S cnt → w.grownBy w' none → w'.heap.size = w.heap.size + 1 → wpList P ops Q rest (a.put o.dst (.pointer (some ⟨w.heap.size, 0, none⟩))) w') : wpList P ops Q (o :: rest) a w := by
  obtain ⟨D, h1, h2, h3⟩ := hs.own
  exact wpList_range_own w hg m t hop kt et (int_keyed hk) ht (plainElem P et) b n D hm h1 (fun w' hr hgr hsz => hK w' _ ⟨D, _, hr, h2, h3, h2, fun _ h => h⟩ hgr hsz)
/-- The next key, whichever it is. -/
theorem wpList_set_next {ops : Array Oper} {rest : List Oper} {o : Oper} {a : Act} {Q : Exit → Act → World → Prop} {r : Nat} {left : Int → Bool} {cnt : Nat} (hg : o.guard = none) (it : Operand) (hop : o.op = Op.next it false)
    (hk : P.underlying kt = some (.int .i64)) (he : P.underlying et = some .bool) (hit : a.eval it = .pointer (some ⟨r, 0, none⟩)) (hs : SetR w P kt et b r n S left cnt)
    (hDone : (∀ x, left x = false) → wpList P ops Q rest (a.put o.dst (.tuple #[.bool false])) w)
    (hMore : ∀ (x : Int) (w' : World) (cnt' : Nat), (Lit.int .i64 x).wf = true → left x = true → SetR w' P kt et b r n S (fun y => left y && decide (y ≠ x)) cnt' → cnt' < cnt → w.grownBy w' (some r) → w'.heap.size = w.heap.size → (Instr.entry (.pointer (some ⟨r, 0, none⟩))).run P w' = .ok (.tuple #[.int .i64 x, .bool true]) w' → wpList P ops Q rest (a.put o.dst (.tuple #[.bool true, .int .i64 x, .bool true])) w') : wpList P ops Q (o :: rest) a w := by
  obtain ⟨D, lf, h1, h2, h3, h4, h5⟩ := hs.own
  refine wpList_next_ranges w hg it hop kt (int_keyed hk) (plainElem P et) (Value.int .i64) Value.bool (fun key kl hkey => by obtain ⟨x, rfl, _⟩ := Maps.keyOf_int_inv hk hkey; exact ⟨x, rfl⟩) (fun v y hv => by
    unfold plainElem at hv
    rw [he] at hv
    cases v <;> simp at hv
    exact ⟨_, rfl⟩) b r n D lf cnt hit h1 (fun _ hl => hDone (fun x => by rw [← h4]; exact hl _)) ?_
  intro x c kl y w' cnt' hkey hlk hv hat hrg hlt hgr hsz hen
  obtain ⟨x', ex, rfl, hwx⟩ := Maps.keyOf_int_inv hk hkey
  cases ex
  have hlx : left x = true := by rw [← h4]; exact hlk
  have hc : c = true := by
    have e := hat (.lit (.bool false))
    rw [h3 x _ (h5 x hlx)] at e
    unfold plainElem at hv
    rw [he] at hv
    simp at hv
    rw [← hv] at e
    simp at e
    exact e
  subst hc
  refine hMore x w' cnt' hwx hlx ⟨D, _, hrg, h2, h3, fun z => ?_, fun z hz => ?_⟩ hlt hgr hsz hen
  · rw [h4]
    congr 1
    simp [Lit.sameKey]
  · simp at hz
    exact h5 z hz.1
end
end Go.Proofs.YtjklhiifjnmedaaGreatDoor
