/- A map from string to bool: made by the call, looked up, written, ranged over; plain theorems, no function of the program in sight. -/
import Derived.Test.YtojbddcbnnbklaaGreatDoorKit
import Derived.Maps.OwnSet
import Derived.Maps.RangeWalk
namespace Go.Proofs.YtojbddcbnnbklaaGreatDoor
open Go.RowKit Go.Maps

abbrev Nm := List UInt8
/-- Block b is a map from string (type kt) to bool (type et) of at most n entries; M tells the value at each name. -/
structure NMap (w : World) (P : Program) (kt et : TypeId) (b n : Nat) (M : Nm → Option Bool) : Prop where
  own : ∃ D : DataW Unit, w.ownsMap P kt (plainElem P et) b n D ∧ (∀ s, has D (.string s) = (M s).isSome) ∧ ∀ s x, M s = some x → ∀ z, D.atKey (.string s) z = .lit (.bool x)
/-- A value laid at a name. -/
def putN (M : Nm → Option Bool) (u : Nm) (x : Bool) : Nm → Option Bool := fun s => if s = u then some x else M s
section
variable {P : Program} {w w' : World} {kt et : TypeId} {b n : Nat} {M : Nm → Option Bool}
theorem isKey_str (s : Nm) : WideAt.IsKeyLit (.string s) := by simp [WideAt.IsKeyLit]
theorem NMap.made (w : World) (P : Program) (kt et : TypeId) : NMap (w.alloc (.map #[] 0)) P kt et w.heap.size 0 (fun _ => none) :=
  ⟨.map [], World.ownsMap_made _ _ _ _, fun _ => rfl, fun _ _ h => by cases h⟩
theorem NMap.lt (h : NMap w P kt et b n M) : b < w.heap.size := by
  obtain ⟨D, h1, _⟩ := h.own
  exact h1.lt
theorem NMap.kept {row : Option Nat} (h : NMap w P kt et b n M) (hg : w.grownBy w' row) (hne : some b ≠ row) : NMap w' P kt et b n M := by
  obtain ⟨D, h1, h2, h3⟩ := h.own
  exact ⟨D, h1.kept hg hne, h2, h3⟩
theorem NMap.below (h : NMap w P kt et b n M) (hb : Below w.heap.size w w') : NMap w' P kt et b n M :=
  h.kept (row := none) ⟨hb.os, hb.tape, hb.output, hb.size, fun k hk _ => hb.block k hk⟩ (by simp)
/-- What stays of it where its block stays. -/
theorem NMap.block (h : NMap w P kt et b n M) (hb : w'.heap[b]? = w.heap[b]?) : NMap w' P kt et b n M := by
  obtain ⟨D, ⟨es, clock, h0, F, hs, hD⟩, h2, h3⟩ := h.own
  exact ⟨D, ⟨es, clock, hb.trans h0, F, hs, hD⟩, h2, h3⟩
theorem NMap.mono (h : NMap w P kt et b n M) {m : Nat} (hm : n ≤ m) : NMap w P kt et b m M := by
  obtain ⟨D, h1, h2, h3⟩ := h.own
  exact ⟨D, h1.mono hm, h2, h3⟩
theorem NMap.alloc (h : NMap w P kt et b n M) (o : Obj) : NMap (w.alloc o) P kt et b n M := h.kept (World.grownBy_alloc w o none) (by simp)
theorem NMap.drew (h : NMap w P kt et b n M) : NMap w.drew P kt et b n M := by
  obtain ⟨D, h1, h2, h3⟩ := h.own
  exact ⟨D, h1, h2, h3⟩
theorem key_str (hk : P.underlying kt = some .string) {s : Nm} (hs : s.length ≤ maxLen) : keyOf P kt (.string ⟨s.toArray⟩) = some (.string s) := by
  have := WideMaps.keyOf_string_mk hk (s := ⟨s.toArray⟩) (by simpa [ByteArray.size] using hs)
  simpa using this
/-- The value at a name, as the map's datum has it. -/
theorem NMap.value (he : P.underlying et = some .bool) {D : DataW Unit} (h2 : ∀ s, has D (.string s) = (M s).isSome) (h3 : ∀ s x, M s = some x → ∀ z, D.atKey (.string s) z = .lit (.bool x)) {s : Nm} {v : Value} {ps : List MemPlace} (hv : plainElem P et v = some (D.atKey (.string s) (.lit (.bool false)), ps)) : v = .bool ((M s).getD false) := by
  unfold plainElem at hv
  rw [he] at hv
  cases hM : M s with
  | none =>
    have hn : has D (.string s) = false := by rw [h2, hM]; rfl
    rw [atKey_of_not_has hn] at hv
    cases v <;> simp at hv
    rw [hv.1]
    rfl
  | some x =>
    rw [h3 s x hM] at hv
    cases v <;> simp at hv
    rw [hv.1]
    rfl
/-- 'm[k]'. -/
theorem wpList_nm_look {ops : Array Oper} {rest : List Oper} {o : Oper} {a : Act} {Q : Exit → Act → World → Prop} (hg : o.guard = none) (m x : Operand) (t : TypeId) (hop : o.op = Op.lookup t m x false)
    (ht : P.underlying t = some (.map kt et)) (hk : P.underlying kt = some .string) (he : P.underlying et = some .bool) (hz : (zeroValue et).run P w = .ok (.bool false) w)
    (hm : a.eval m = .map (some b)) (hs : NMap w P kt et b n M) (u : Nm) (hu : u.length ≤ maxLen) (hx : a.eval x = .string ⟨u.toArray⟩)
    (hK : wpList P ops Q rest (a.put o.dst (.bool ((M u).getD false))) w) : wpList P ops Q (o :: rest) a w := by
  refine wpList_plain hg fun K' hK' => ?_
  obtain ⟨D, h1, h2, h3⟩ := hs.own
  obtain ⟨v, ps, hrun, hv⟩ := h1.lookup (string_keyed hk) ht hz (plainElem_bool he false) (key_str hk hu)
  have hval := NMap.value he h2 h3 hv
  subst hval
  unfold Oper.wp
  simp [execOp, hop, hm, hx, hrun, Result.andThen]
  exact hK' _ _ hK
/-- 'v, ok := m[k]'. -/
theorem wpList_nm_ok {ops : Array Oper} {rest : List Oper} {o : Oper} {a : Act} {Q : Exit → Act → World → Prop} (hg : o.guard = none) (m x : Operand) (t : TypeId) (hop : o.op = Op.lookup t m x true)
    (ht : P.underlying t = some (.map kt et)) (hk : P.underlying kt = some .string) (he : P.underlying et = some .bool) (hz : (zeroValue et).run P w = .ok (.bool false) w)
    (hm : a.eval m = .map (some b)) (hs : NMap w P kt et b n M) (u : Nm) (hu : u.length ≤ maxLen) (hx : a.eval x = .string ⟨u.toArray⟩)
    (hK : wpList P ops Q rest (a.put o.dst (.tuple #[.bool ((M u).getD false), .bool (M u).isSome])) w) : wpList P ops Q (o :: rest) a w := by
  obtain ⟨D, h1, h2, h3⟩ := hs.own
  refine wpList_lookup_own_ok w hg m x t hop kt et (string_keyed hk) ht (plainElem P et) hz (.lit (.bool false)) [] (plainElem_bool he false) b n D hm h1 _ _ hx (key_str hk hu) (fun v ps hv => ?_)
  have hval := NMap.value he h2 h3 hv
  subst hval
  rw [h2]
  exact hK
/-- 'm[k] = v'. -/
theorem wpList_nm_put {ops : Array Oper} {rest : List Oper} {o : Oper} {a : Act} {Q : Exit → Act → World → Prop} (hg : o.guard = none) (m x v : Operand) (t : TypeId) (hop : o.op = Op.mapUpdate t m x v)
    (ht : P.underlying t = some (.map kt et)) (hk : P.underlying kt = some .string) (he : P.underlying et = some .bool)
    (hm : a.eval m = .map (some b)) (hs : NMap w P kt et b n M) (hn : n < maxLen) (u : Nm) (hu : u.length ≤ maxLen) (hx : a.eval x = .string ⟨u.toArray⟩) (y : Bool) (hv : a.eval v = .bool y)
    (hK : ∀ w', NMap w' P kt et b (n + 1) (putN M u y) → w.grownBy w' (some b) → wpList P ops Q rest (a.put o.dst undef) w') : wpList P ops Q (o :: rest) a w := by
  obtain ⟨D, h1, h2, h3⟩ := hs.own
  refine wpList_mapUpdate_own w hg m x v t hop kt et (string_keyed hk) ht (plainElem P et) b n D hm h1 hn _ _ (.string u) hx hv (key_str hk hu) (.lit (.bool y)) [] (plainElem_bool he y) ?_
  intro w' hown hgr
  refine hK w' ⟨D.put (.string u) (.lit (.bool y)), hown, fun s => ?_, fun s z hz q => ?_⟩ hgr
  · unfold putN
    by_cases hsu : s = u
    · subst hsu
      rw [has_put_same h1.isMap (isKey_str s), if_pos rfl]
      rfl
    · rw [has_put_other (by simpa using hsu), h2, if_neg hsu]
  · unfold putN at hz
    by_cases hsu : s = u
    · subst hsu
      rw [if_pos rfl] at hz
      obtain rfl := Option.some.inj hz
      exact atKey_put_same h1.isMap (isKey_str s) _ _
    · rw [if_neg hsu] at hz
      rw [atKey_put_other (by simpa using hsu)]
      exact h3 s z hz q
/-- 'for k, v := range m' under way: 'left' tells which names are still to come, cnt how many. -/
structure NMapR (w : World) (P : Program) (kt et : TypeId) (b r n : Nat) (M : Nm → Option Bool) (left : Nm → Bool) (cnt : Nat) : Prop where
  own : ∃ (D : DataW Unit) (lf : Lit → Bool), w.ranges P kt (plainElem P et) b r n D lf cnt ∧ (∀ s, has D (.string s) = (M s).isSome) ∧ (∀ s x, M s = some x → ∀ z, D.atKey (.string s) z = .lit (.bool x)) ∧ (∀ s, lf (.string s) = left s) ∧ ∀ s, left s = true → (M s).isSome = true
theorem NMapR.map {r : Nat} {left : Nm → Bool} {cnt : Nat} (h : NMapR w P kt et b r n M left cnt) : NMap w P kt et b n M := by
  obtain ⟨D, lf, h1, h2, h3, _⟩ := h.own
  exact ⟨D, h1.owns, h2, h3⟩
theorem NMapR.kept {r : Nat} {left : Nm → Bool} {cnt : Nat} {row : Option Nat} (h : NMapR w P kt et b r n M left cnt) (hg : w.grownBy w' row) (hb : some b ≠ row) (hr : some r ≠ row) : NMapR w' P kt et b r n M left cnt := by
  obtain ⟨D, lf, h1, h2⟩ := h.own
  exact ⟨D, lf, h1.kept hg hb hr, h2⟩
theorem NMapR.lt {r : Nat} {left : Nm → Bool} {cnt : Nat} (h : NMapR w P kt et b r n M left cnt) : b < w.heap.size ∧ r < w.heap.size ∧ r ≠ b := by
  obtain ⟨D, lf, h1, _⟩ := h.own
  exact ⟨h1.owns.lt, h1.lt, h1.ne⟩
theorem NMapR.below {r : Nat} {left : Nm → Bool} {cnt : Nat} (h : NMapR w P kt et b r n M left cnt) (hb : Below w.heap.size w w') : NMapR w' P kt et b r n M left cnt :=
  h.kept (row := none) ⟨hb.os, hb.tape, hb.output, hb.size, fun k hk _ => hb.block k hk⟩ (by simp) (by simp)
theorem NMapR.count {r : Nat} {left : Nm → Bool} {cnt : Nat} (h : NMapR w P kt et b r n M left cnt) : w.rangeLeft b r = cnt := by
  obtain ⟨D, lf, h1, _⟩ := h.own
  exact h1.left_eq
/-- 'range m'. -/
theorem wpList_nm_range {ops : Array Oper} {rest : List Oper} {o : Oper} {a : Act} {Q : Exit → Act → World → Prop} (hg : o.guard = none) (m : Operand) (t : TypeId) (hop : o.op = Op.range t m)
    (ht : P.underlying t = some (.map kt et)) (hk : P.underlying kt = some .string) (hm : a.eval m = .map (some b)) (hs : NMap w P kt et b n M)
    (hK : ∀ w' cnt, NMapR w' P kt et b w.heap.size n M (fun s => (M s).isSome) cnt → w.grownBy w' none → w'.heap.size = w.heap.size + 1 → wpList P ops Q rest (a.put o.dst (.pointer (some ⟨w.heap.size, 0, none⟩))) w') : wpList P ops Q (o :: rest) a w := by
  obtain ⟨D, h1, h2, h3⟩ := hs.own
  exact wpList_range_own w hg m t hop kt et (string_keyed hk) ht (plainElem P et) b n D hm h1 (fun w' hr hgr hsz => hK w' _ ⟨D, _, hr, h2, h3, h2, fun _ h => h⟩ hgr hsz)
/-- The next name, whichever it is. -/
theorem wpList_nm_next {ops : Array Oper} {rest : List Oper} {o : Oper} {a : Act} {Q : Exit → Act → World → Prop} {r : Nat} {left : Nm → Bool} {cnt : Nat} (hg : o.guard = none) (it : Operand) (hop : o.op = Op.next it false)
    (hk : P.underlying kt = some .string) (he : P.underlying et = some .bool) (hit : a.eval it = .pointer (some ⟨r, 0, none⟩)) (hs : NMapR w P kt et b r n M left cnt)
    (hDone : (∀ x, left x = false) → wpList P ops Q rest (a.put o.dst (.tuple #[.bool false])) w)
    (hMore : ∀ (s : Nm) (x : Bool) (w' : World) (cnt' : Nat), s.length ≤ maxLen → left s = true → M s = some x → NMapR w' P kt et b r n M (fun y => left y && decide (y ≠ s)) cnt' → cnt' < cnt → w.grownBy w' (some r) → w'.heap.size = w.heap.size → (Instr.entry (.pointer (some ⟨r, 0, none⟩))).run P w' = .ok (.tuple #[.string ⟨s.toArray⟩, .bool x]) w' → wpList P ops Q rest (a.put o.dst (.tuple #[.bool true, .string ⟨s.toArray⟩, .bool x])) w') : wpList P ops Q (o :: rest) a w := by
  obtain ⟨D, lf, h1, h2, h3, h4, h5⟩ := hs.own
  refine wpList_next_ranges w hg it hop kt (string_keyed hk) (plainElem P et) (fun s : Nm => Value.string ⟨s.toArray⟩) Value.bool (fun key kl hkey => by obtain ⟨s, rfl, _⟩ := WideMaps.string_of_keyOf hk hkey; exact ⟨s.data.toList, rfl⟩) (fun v y hv => by
    unfold plainElem at hv
    rw [he] at hv
    cases v <;> simp at hv
    exact ⟨_, rfl⟩) b r n D lf cnt hit h1 (fun _ hl => hDone (fun x => by rw [← h4]; exact hl _)) ?_
  intro s c kl y w' cnt' hkey hlk hv hat hrg hlt hgr hsz hen
  obtain ⟨s', es, ekl, hws⟩ := WideMaps.string_of_keyOf hk hkey
  have hs' : s' = ⟨s.toArray⟩ := by injection es with e; exact e.symm
  subst hs'
  have ekl2 : kl = .string s := by rw [ekl]
  subst ekl2
  have hls : left s = true := by rw [← h4]; exact hlk
  obtain ⟨x, hx⟩ : ∃ x, M s = some x := Option.isSome_iff_exists.1 (h5 s hls)
  have hc : c = x := by
    have e := hat (.lit (.bool false))
    rw [h3 s x hx] at e
    unfold plainElem at hv
    rw [he] at hv
    simp at hv
    rw [← hv] at e
    simp at e
    exact e.symm
  subst hc
  refine hMore s c w' cnt' (by simpa [ByteArray.size] using hws) hls hx ⟨D, _, hrg, h2, h3, fun z => ?_, fun z hz => ?_⟩ hlt hgr hsz hen
  · rw [h4]
    congr 1
    simp [Lit.sameKey]
    rw [Bool.eq_iff_iff]
    simp
  · simp at hz
    exact h5 z hz.1
end
end Go.Proofs.YtojbddcbnnbklaaGreatDoor
