/- Maps of the call's own, whatever their values are: looked up, stored into, struck from, counted; plain theorems, no function of the program in sight. -/
import Derived.Test.YtjklhiifjnmedaaGreatDoorKit
import Derived.Maps.OwnSet
import Derived.Maps.RangeWalk
namespace Go.Proofs.YtjklhiifjnmedaaGreatDoor
open Go.RowKit Go.Maps

/-- An element stands for itself. -/
def selfElem (v : Value) : Option (DataW Value × List MemPlace) := some (.held v, [])
/-- Block b is a map of at most n entries; M tells the value at each key. -/
structure MapV (w : World) (P : Program) (kt : TypeId) (b n : Nat) (M : Lit → Option Value) : Prop where
  own : ∃ D : DataW Value, w.ownsMap P kt selfElem b n D ∧ (∀ k, has D k = (M k).isSome) ∧ ∀ k v, M k = some v → ∀ z, D.atKey k z = .held v
/-- A value laid at a key. -/
def putM (M : Lit → Option Value) (kl : Lit) (v : Value) : Lit → Option Value := fun x => if x.sameKey kl = true then some v else M x
/-- A key struck. -/
def delM (M : Lit → Option Value) (kl : Lit) : Lit → Option Value := fun x => if x.sameKey kl = true then none else M x
section
variable {P : Program} {w w' : World} {kt : TypeId} {b n : Nat} {M : Lit → Option Value}
theorem MapV.made (w : World) (P : Program) (kt : TypeId) : MapV (w.alloc (.map #[] 0)) P kt w.heap.size 0 (fun _ => none) :=
  ⟨.map [], World.ownsMap_made _ _ _ _, fun _ => rfl, fun _ _ h => by cases h⟩
theorem MapV.lt (h : MapV w P kt b n M) : b < w.heap.size := by
  obtain ⟨D, h1, _⟩ := h.own
  exact h1.lt
theorem MapV.kept {row : Option Nat} (h : MapV w P kt b n M) (hg : w.grownBy w' row) (hne : some b ≠ row) : MapV w' P kt b n M := by
  obtain ⟨D, h1, h2, h3⟩ := h.own
  exact ⟨D, h1.kept hg hne, h2, h3⟩
theorem MapV.below (h : MapV w P kt b n M) (hb : Below w.heap.size w w') : MapV w' P kt b n M :=
  h.kept (row := none) ⟨hb.os, hb.tape, hb.output, hb.size, fun k hk _ => hb.block k hk⟩ (by simp)
/-- What stays of it where its block stays. -/
theorem MapV.block (h : MapV w P kt b n M) (hb : w'.heap[b]? = w.heap[b]?) : MapV w' P kt b n M := by
  obtain ⟨D, ⟨es, clock, h0, F, hs, hD⟩, h2, h3⟩ := h.own
  exact ⟨D, ⟨es, clock, hb.trans h0, F, hs, hD⟩, h2, h3⟩
theorem MapV.mono (h : MapV w P kt b n M) {m : Nat} (hm : n ≤ m) : MapV w P kt b m M := by
  obtain ⟨D, h1, h2, h3⟩ := h.own
  exact ⟨D, h1.mono hm, h2, h3⟩
theorem MapV.alloc (h : MapV w P kt b n M) (o : Obj) : MapV (w.alloc o) P kt b n M := h.kept (World.grownBy_alloc w o none) (by simp)
theorem MapV.drew (h : MapV w P kt b n M) : MapV w.drew P kt b n M := by
  obtain ⟨D, h1, h2, h3⟩ := h.own
  exact ⟨D, h1, h2, h3⟩
theorem MapV.ext (h : MapV w P kt b n M) {M' : Lit → Option Value} (e : ∀ k, M k = M' k) : MapV w P kt b n M' := by
  have : M = M' := funext e
  rwa [← this]
/-- As many entries as keys. -/
theorem size_keys {D : DataW Value} (h1 : w.ownsMap P kt selfElem b n D) (K : Keyed P kt) (h2 : ∀ k, has D k = (M k).isSome) {ks : List Lit} (hn : ks.Nodup) (hk : ∀ x, (M x).isSome = true ↔ x ∈ ks) : size D = ks.length := by
  obtain ⟨es, rfl, hp, hkey⟩ := h1.entries K
  rw [size_eq]
  have hm : ∀ x, x ∈ es.map (·.1) ↔ x ∈ ks := by
    intro x
    rw [← hk, ← h2, has_eq, List.any_eq_true, List.mem_map]
    constructor
    · rintro ⟨p, hp', rfl⟩
      exact ⟨p, hp', WideAt.sameKey_self (hkey p hp')⟩
    · rintro ⟨p, hp', hs⟩
      exact ⟨p, hp', WideAt.sameKey_eq hs⟩
  have hnd : (es.map (·.1)).Nodup := by
    rw [List.Nodup, List.pairwise_map]
    exact hp
  have : (es.map (·.1)).Perm ks := (List.perm_ext_iff_of_nodup hnd hn).2 hm
  have := this.length_eq
  rwa [List.length_map] at this
variable {et : TypeId} {ops : Array Oper} {rest : List Oper} {o : Oper} {a : Act} {Q : Exit → Act → World → Prop}
/-- 'm[k]'. -/
theorem wpList_mapV_look (hg : o.guard = none) (m x : Operand) (t : TypeId) (hop : o.op = Op.lookup t m x false) (K : Keyed P kt) (ht : P.underlying t = some (.map kt et)) {z : Value} (hz : (zeroValue et).run P w = .ok z w)
    (hm : a.eval m = .map (some b)) (hs : MapV w P kt b n M) (key : Value) (kl : Lit) (hx : a.eval x = key) (hkey : keyOf P kt key = some kl)
    (hK : wpList P ops Q rest (a.put o.dst ((M kl).getD z)) w) : wpList P ops Q (o :: rest) a w := by
  refine wpList_plain hg fun K' hK' => ?_
  obtain ⟨D, h1, h2, h3⟩ := hs.own
  obtain ⟨v, ps, hrun, hv⟩ := h1.lookup K ht hz (zd := .held z) (zp := []) rfl hkey
  have hval : v = (M kl).getD z := by
    unfold selfElem at hv
    simp only [Option.some.injEq, Prod.mk.injEq] at hv
    cases hM : M kl with
    | none =>
      have hn : has D kl = false := by rw [h2, hM]; rfl
      rw [atKey_of_not_has hn] at hv
      simpa using hv.1
    | some u =>
      rw [h3 kl u hM] at hv
      simpa using hv.1
  subst hval
  unfold Oper.wp
  simp [execOp, hop, hm, hx, hrun, Result.andThen]
  exact hK' _ _ hK
/-- 'v, ok := m[k]'. -/
theorem wpList_mapV_ok (hg : o.guard = none) (m x : Operand) (t : TypeId) (hop : o.op = Op.lookup t m x true) (K : Keyed P kt) (ht : P.underlying t = some (.map kt et)) {z : Value} (hz : (zeroValue et).run P w = .ok z w)
    (hm : a.eval m = .map (some b)) (hs : MapV w P kt b n M) (key : Value) (kl : Lit) (hx : a.eval x = key) (hkey : keyOf P kt key = some kl)
    (hK : wpList P ops Q rest (a.put o.dst (.tuple #[(M kl).getD z, .bool (M kl).isSome])) w) : wpList P ops Q (o :: rest) a w := by
  obtain ⟨D, h1, h2, h3⟩ := hs.own
  refine wpList_lookup_own_ok w hg m x t hop kt et K ht selfElem hz (.held z) [] rfl b n D hm h1 key kl hx hkey (fun v ps hv => ?_)
  have hval : v = (M kl).getD z := by
    unfold selfElem at hv
    simp only [Option.some.injEq, Prod.mk.injEq] at hv
    cases hM : M kl with
    | none =>
      have hn : has D kl = false := by rw [h2, hM]; rfl
      rw [atKey_of_not_has hn] at hv
      simpa using hv.1
    | some u =>
      rw [h3 kl u hM] at hv
      simpa using hv.1
  subst hval
  rw [h2]
  exact hK
/-- 'm[k] = v'. -/
theorem wpList_mapV_put (hg : o.guard = none) (m x v : Operand) (t : TypeId) (hop : o.op = Op.mapUpdate t m x v) (K : Keyed P kt) (ht : P.underlying t = some (.map kt et))
    (hm : a.eval m = .map (some b)) (hs : MapV w P kt b n M) (hn : n < maxLen) (key val : Value) (kl : Lit) (hx : a.eval x = key) (hv : a.eval v = val) (hkey : keyOf P kt key = some kl)
    (hK : ∀ w', MapV w' P kt b (n + 1) (putM M kl val) → w.grownBy w' (some b) → wpList P ops Q rest (a.put o.dst undef) w') : wpList P ops Q (o :: rest) a w := by
  obtain ⟨D, h1, h2, h3⟩ := hs.own
  refine wpList_mapUpdate_own w hg m x v t hop kt et K ht selfElem b n D hm h1 hn key val kl hx hv hkey (.held val) [] rfl ?_
  intro w' hown hgr
  have hkl := K.key hkey
  refine hK w' ⟨D.put kl (.held val), hown, fun y => ?_, fun y u hy z => ?_⟩ hgr
  · unfold putM
    by_cases hyk : y = kl
    · subst hyk
      rw [has_put_same h1.isMap hkl, if_pos (WideAt.sameKey_self hkl)]
      rfl
    · rw [has_put_other hyk, h2, if_neg (by rw [sameKey_ne hyk]; simp)]
  · unfold putM at hy
    by_cases hyk : y = kl
    · subst hyk
      rw [if_pos (WideAt.sameKey_self hkl)] at hy
      injection hy with hy
      rw [atKey_put_same h1.isMap hkl, hy]
    · rw [if_neg (by rw [sameKey_ne hyk]; simp)] at hy
      rw [atKey_put_other hyk]
      exact h3 y u hy z
/-- 'delete(m, k)'. -/
theorem wpList_mapV_del (hg : o.guard = none) (m x : Operand) (t : TypeId) (hop : o.op = Op.call { callee := Callee.builtin Builtin.delete, args := #[m, x], argTypes := #[t, kt] }) (K : Keyed P kt) (ht : P.underlying t = some (.map kt et))
    (hm : a.eval m = .map (some b)) (hs : MapV w P kt b n M) (key : Value) (kl : Lit) (hx : a.eval x = key) (hkey : keyOf P kt key = some kl)
    (hK : ∀ w', MapV w' P kt b n (delM M kl) → w.grownBy w' (some b) → wpList P ops Q rest (a.put o.dst (.tuple #[])) w') : wpList P ops Q (o :: rest) a w := by
  obtain ⟨D, h1, h2, h3⟩ := hs.own
  refine wpList_delete_own w hg m x t kt hop et K ht selfElem b n D hm h1 key kl hx hkey ?_
  intro w' hown hturn
  have hkl := K.key hkey
  refine hK w' ⟨D.del kl, hown, fun y => ?_, fun y u hy z => ?_⟩ hturn.grown
  · unfold delM
    by_cases hyk : y = kl
    · subst hyk
      rw [has_del_same, if_pos (WideAt.sameKey_self hkl)]
      rfl
    · rw [has_del_other hyk, h2, if_neg (by rw [sameKey_ne hyk]; simp)]
  · unfold delM at hy
    by_cases hyk : y = kl
    · subst hyk
      rw [if_pos (WideAt.sameKey_self hkl)] at hy
      cases hy
    · rw [if_neg (by rw [sameKey_ne hyk]; simp)] at hy
      rw [atKey_del_other hyk]
      exact h3 y u hy z
/-- 'len(m)'. -/
theorem wpList_mapV_len (hg : o.guard = none) (m : Operand) (t : TypeId) (hop : o.op = Op.call { callee := Callee.builtin Builtin.len, args := #[m], argTypes := #[t] }) (K : Keyed P kt) (ht : P.underlying t = some (.map kt et))
    (hm : a.eval m = .map (some b)) (hs : MapV w P kt b n M)
    (hK : ∀ c : Nat, c ≤ n → (∀ ks : List Lit, ks.Nodup → (∀ x, (M x).isSome = true ↔ x ∈ ks) → c = ks.length) → wpList P ops Q rest (a.put o.dst (.int .i64 c)) w) : wpList P ops Q (o :: rest) a w := by
  obtain ⟨D, h1, h2, h3⟩ := hs.own
  exact wpList_len_own w hg m t hop kt et ht selfElem b n D hm h1 (hK _ h1.size_le (fun ks hn hk => size_keys h1 K h2 hn hk))
end
end Go.Proofs.YtjklhiifjnmedaaGreatDoor
