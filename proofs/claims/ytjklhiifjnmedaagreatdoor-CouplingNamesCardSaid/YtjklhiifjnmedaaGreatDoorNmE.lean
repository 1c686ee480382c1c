/- Names that are held and waited for, in plain Lean: who conflicts with whom, looking at the waiting ones, and what stays true; no program in sight. A map from string to bool: made by the call, looked up, written, ranged over; plain theorems, no function of the program in sight. The calls on a table in plain Lean: asked, given back, shared; what holds after any calls. What the laws say, in plain Lean: who holds a name, who blocks whom, what becomes of all when holders go away or share. Fairness and sharing, in plain Lean. One name that three owners want, on a table: who holds it and who waits; plain Lean, no program in sight. The two loops of EnqueueFair and the ones of EnqueueMoves, in plain Lean. Sharing once more, in plain Lean. The reference's table beside the plain one: its holders stand by their numbers. Plain Lean. The reference's steps on its table, a wish put in order, names' parts: plain Lean. -/
import Derived.Test.YtjklhiifjnmedaaGreatDoorKit
import Derived.Maps.OwnSet
import Derived.Maps.RangeWalk
namespace P43
abbrev Nm := List UInt8
/-- An owner with its wish: whether it wants each name exclusively. -/
structure Cl where
  (id : Int) (ns : List (Nm × Bool))
  deriving DecidableEq
def conf (a b : Cl) : Bool := a.ns.any fun p => b.ns.any fun q => decide (p.1 = q.1) && (p.2 || q.2)
theorem conf_iff {a b : Cl} : conf a b = true ↔ ∃ p ∈ a.ns, ∃ q ∈ b.ns, p.1 = q.1 ∧ (p.2 || q.2) = true := by
  unfold conf
  simp [List.any_eq_true]
theorem conf_comm (a b : Cl) : conf a b = conf b a := by
  rw [Bool.eq_iff_iff, conf_iff, conf_iff]
  constructor <;> (rintro ⟨p, hp, q, hq, h1, h2⟩; exact ⟨q, hq, p, hp, h1.symm, by rw [Bool.or_comm]; exact h2⟩)
structure T where
  (hs ws : List Cl)
/-- The claims of a list that conflict with one. -/
def blk (l : List Cl) (c : Cl) : List Cl := l.filter fun x => conf x c
theorem mem_blk {l : List Cl} {c x : Cl} : x ∈ blk l c ↔ x ∈ l ∧ conf x c = true := by
  unfold blk
  rw [List.mem_filter]
theorem blk_nil {l : List Cl} {c : Cl} : blk l c = [] ↔ ∀ x ∈ l, conf x c = false := by
  unfold blk
  rw [List.filter_eq_nil_iff]
  simp
/-- The waiting claims that may go on become holders, from the first to the last. -/
def lookGo : List Cl → List Cl → List Cl → List Int → T × List Int
  | h, st, [], out => (⟨h, st⟩, out)
  | h, st, c :: rest, out => if blk (h ++ st) c = [] then lookGo (h ++ [c]) st rest (out ++ [c.id]) else lookGo h (st ++ [c]) rest out
def look (t : T) : T × List Int := lookGo t.hs [] t.ws []
def drop (l : List Cl) (o : Int) : List Cl := l.filter fun c => decide (c.id ≠ o)
/-- A lock made one that is not exclusive. -/
def setF (c : Cl) (s : Nm) : Cl := ⟨c.id, c.ns.map fun p => if p.1 = s then (p.1, false) else p⟩
def shareL (l : List Cl) (o : Int) (s : Nm) : List Cl := l.map fun c => if c.id = o then setF c s else c
def release (t : T) (o : Int) : T × List Int := look ⟨drop t.hs o, drop t.ws o⟩
def share (t : T) (o : Int) (s : Nm) : T × List Int := look ⟨shareL t.hs o s, t.ws⟩
def enter (t : T) (c : Cl) : T × Bool := if blk (t.hs ++ t.ws) c = [] then (⟨t.hs ++ [c], t.ws⟩, true) else (⟨t.hs, t.ws ++ [c]⟩, false)
def ids (l : List Cl) : List Int := l.map (·.id)
theorem ids_append (a b : List Cl) : ids (a ++ b) = ids a ++ ids b := List.map_append
/-- What holds of a table at any time. -/
structure Inv (t : T) : Prop where
  once : (ids (t.hs ++ t.ws)).Nodup
  compat : ∀ a ∈ t.hs, ∀ b ∈ t.hs, a.id ≠ b.id → conf a b = false
  busy : ∀ pre c post, t.ws = pre ++ c :: post → blk (t.hs ++ pre) c ≠ []
theorem inv_nil : Inv ⟨[], []⟩ := ⟨by simp [ids], by simp, by intro p c q h; simp at h⟩
/-- What holds while the waiting ones are looked at. -/
structure Mid (h st rest : List Cl) : Prop where
  once : (ids (h ++ (st ++ rest))).Nodup
  compat : ∀ a ∈ h, ∀ b ∈ h, a.id ≠ b.id → conf a b = false
  busy : ∀ pre c post, st = pre ++ c :: post → blk (h ++ pre) c ≠ []
theorem blk_mono {l m : List Cl} {c : Cl} (h : ∀ x ∈ l, x ∈ m) (hn : blk l c ≠ []) : blk m c ≠ [] := by
  intro e
  apply hn
  rw [blk_nil] at e ⊢
  exact fun x hx => e x (h x hx)
theorem cons_split {α : Type} {a b c d : List α} {y : α} (h : a ++ b = c ++ y :: d) : (∃ e, a = c ++ y :: e ∧ d = e ++ b) ∨ (∃ e, c = a ++ e ∧ b = e ++ y :: d) := by
  rw [List.append_eq_append_iff] at h
  rcases h with ⟨e, h1, h2⟩ | ⟨e, h1, h2⟩
  · exact .inr ⟨e, h1, h2⟩
  · cases e with
    | nil => exact .inr ⟨[], by simpa using h1.symm, by simpa using h2.symm⟩
    | cons z e =>
      rw [List.cons_append] at h2
      simp only [List.cons.injEq] at h2
      obtain ⟨rfl, rfl⟩ := h2
      exact .inl ⟨e, h1, rfl⟩
theorem Mid.take {h st rest : List Cl} {c : Cl} (m : Mid h st (c :: rest)) (e : blk (h ++ st) c = []) : Mid (h ++ [c]) st rest := by
  rw [blk_nil] at e
  refine ⟨?_, ?_, ?_⟩
  · have h1 := m.once
    have hp : (ids (h ++ [c] ++ (st ++ rest))).Perm (ids (h ++ (st ++ c :: rest))) := by
      unfold ids
      refine List.Perm.map _ ?_
      rw [List.append_assoc]
      refine List.Perm.append_left h ?_
      exact (List.perm_middle (l₁ := st) (l₂ := rest) (a := c)).symm
    exact (hp.nodup_iff).2 h1
  · intro a ha b hb hab
    rcases List.mem_append.1 ha with ha1 | ha1 <;> rcases List.mem_append.1 hb with hb1 | hb1
    · exact m.compat a ha1 b hb1 hab
    · rw [List.mem_singleton.1 hb1]
      exact e a (List.mem_append_left _ ha1)
    · rw [List.mem_singleton.1 ha1, conf_comm]
      exact e b (List.mem_append_left _ hb1)
    · rw [List.mem_singleton.1 ha1, List.mem_singleton.1 hb1] at hab
      exact absurd rfl hab
  · intro pre d post hp
    refine blk_mono (fun x hx => ?_) (m.busy pre d post hp)
    rcases List.mem_append.1 hx with hx | hx
    · simp [hx]
    · simp [hx]
theorem Mid.wait {h st rest : List Cl} {c : Cl} (m : Mid h st (c :: rest)) (e : blk (h ++ st) c ≠ []) : Mid h (st ++ [c]) rest := by
  refine ⟨by simpa using m.once, m.compat, ?_⟩
  intro pre d post hp
  rcases cons_split hp with ⟨x, h1, h2⟩ | ⟨x, h1, h2⟩
  · exact m.busy pre d x h1
  · cases x with
    | nil =>
      simp at h1 h2
      rw [h1, ← h2.1]
      exact e
    | cons z x =>
      have := congrArg List.length h2
      simp at this
theorem lookGo_inv : ∀ (rest h st : List Cl) (out : List Int), Mid h st rest → Inv (lookGo h st rest out).1
  | [], h, st, out, m => ⟨by have := m.once; rwa [List.append_nil] at this, m.compat, m.busy⟩
  | c :: rest, h, st, out, m => by
    rw [lookGo]
    split
    · rename_i e
      exact lookGo_inv rest _ _ _ (m.take e)
    · rename_i e
      exact lookGo_inv rest _ _ _ (m.wait e)
/-- Who goes on, and who still waits. -/
theorem lookGo_parts : ∀ (rest h st : List Cl) (out : List Int), ∃ g r : List Cl, lookGo h st rest out = (⟨h ++ g, st ++ r⟩, out ++ ids g) ∧ g.Sublist rest ∧ r.Sublist rest ∧ (g ++ r).Perm rest
  | [], h, st, out => ⟨[], [], by simp [lookGo, ids], .slnil, .slnil, .nil⟩
  | c :: rest, h, st, out => by
    rw [lookGo]
    split
    · obtain ⟨g, r, h1, h2, h3, h4⟩ := lookGo_parts rest (h ++ [c]) st (out ++ [c.id])
      refine ⟨c :: g, r, by rw [h1]; simp [ids], h2.cons_cons c, h3.cons c, by simpa using h4⟩
    · obtain ⟨g, r, h1, h2, h3, h4⟩ := lookGo_parts rest h (st ++ [c]) out
      refine ⟨g, c :: r, by rw [h1]; simp, h2.cons c, h3.cons_cons c, ?_⟩
      exact List.perm_middle.trans (by simpa using h4)
theorem drop_sub (l : List Cl) (o : Int) : (drop l o).Sublist l := List.filter_sublist
theorem mem_drop {l : List Cl} {o : Int} {c : Cl} : c ∈ drop l o ↔ c ∈ l ∧ c.id ≠ o := by
  unfold drop
  rw [List.mem_filter]
  simp
theorem release_inv {t : T} (i : Inv t) (o : Int) : Inv (release t o).1 := by
  refine lookGo_inv _ _ _ _ ⟨?_, fun a ha b hb => i.compat a (mem_drop.1 ha).1 b (mem_drop.1 hb).1, by intro p c q h; simp at h⟩
  rw [List.nil_append]
  refine i.once.sublist ?_
  unfold ids
  exact ((drop_sub _ _).append (drop_sub _ _)).map _
theorem setF_conf {a b : Cl} {s : Nm} (h : conf (setF a s) b = true) : conf a b = true := by
  rw [conf_iff] at h ⊢
  obtain ⟨p, hp, q, hq, h1, h2⟩ := h
  obtain ⟨p0, hp0, rfl⟩ := List.mem_map.1 hp
  by_cases he : p0.1 = s
  · rw [if_pos he] at h1 h2
    refine ⟨p0, hp0, q, hq, h1, ?_⟩
    simp only [Bool.false_or] at h2
    rw [h2, Bool.or_true]
  · rw [if_neg he] at h1 h2
    exact ⟨p0, hp0, q, hq, h1, h2⟩
theorem setF_id (c : Cl) (s : Nm) : (setF c s).id = c.id := rfl
theorem shareL_ids (l : List Cl) (o : Int) (s : Nm) : ids (shareL l o s) = ids l := by
  unfold ids shareL
  rw [List.map_map]
  refine List.map_congr_left fun c _ => ?_
  simp only [Function.comp]
  split <;> rfl
/-- Sharing leaves fewer conflicts. -/
theorem shareL_conf {l : List Cl} {o : Int} {s : Nm} {x : Cl} (hx : x ∈ shareL l o s) : ∃ y ∈ l, y.id = x.id ∧ ∀ b, conf x b = true → conf y b = true := by
  obtain ⟨y, hy, rfl⟩ := List.mem_map.1 hx
  refine ⟨y, hy, ?_, fun b hb => ?_⟩
  · split <;> rfl
  · split at hb
    · exact setF_conf hb
    · exact hb
theorem share_inv {t : T} (i : Inv t) (o : Int) (s : Nm) : Inv (share t o s).1 := by
  refine lookGo_inv _ _ _ _ ⟨?_, ?_, by intro p c q h; simp at h⟩
  · have := i.once
    rw [ids_append] at this
    rw [List.nil_append, ids_append]
    show (ids (shareL t.hs o s) ++ ids t.ws).Nodup
    rw [shareL_ids]
    exact this
  · intro a ha b hb hab
    obtain ⟨a', ha', hia, hca⟩ := shareL_conf ha
    obtain ⟨b', hb', hib, hcb⟩ := shareL_conf hb
    cases hc : conf a b with
    | false => rfl
    | true =>
      exfalso
      have h1 := hca b hc
      rw [conf_comm] at h1
      have h2 := hcb a' h1
      rw [conf_comm] at h2
      rw [i.compat a' ha' b' hb' (by rw [hia, hib]; exact hab)] at h2
      cases h2
theorem enter_inv {t : T} (i : Inv t) {c : Cl} (hn : c.id ∉ ids (t.hs ++ t.ws)) : Inv (enter t c).1 := by
  have hone : (ids (t.hs ++ t.ws) ++ [c.id]).Nodup := by
    rw [List.nodup_append]
    exact ⟨i.once, by simp, fun a ha b hb e => by rw [List.mem_singleton.1 hb] at e; exact hn (e ▸ ha)⟩
  unfold enter
  split
  · rename_i e
    rw [blk_nil] at e
    refine ⟨?_, ?_, ?_⟩
    · have hp : (ids (t.hs ++ [c] ++ t.ws)).Perm (ids (t.hs ++ t.ws) ++ [c.id]) := by
        rw [show ids (t.hs ++ t.ws) ++ [c.id] = ids (t.hs ++ t.ws ++ [c]) from by rw [ids_append (t.hs ++ t.ws)]; rfl]
        unfold ids
        refine List.Perm.map _ ?_
        rw [List.append_assoc, List.append_assoc]
        exact List.Perm.append_left _ List.perm_append_comm
      exact hp.nodup_iff.2 hone
    · intro a ha b hb hab
      rcases List.mem_append.1 ha with ha1 | ha1 <;> rcases List.mem_append.1 hb with hb1 | hb1
      · exact i.compat a ha1 b hb1 hab
      · rw [List.mem_singleton.1 hb1]
        exact e a (List.mem_append_left _ ha1)
      · rw [List.mem_singleton.1 ha1, conf_comm]
        exact e b (List.mem_append_left _ hb1)
      · rw [List.mem_singleton.1 ha1, List.mem_singleton.1 hb1] at hab
        exact absurd rfl hab
    · intro pre d post hp
      exact blk_mono (fun x hx => by rcases List.mem_append.1 hx with hx | hx <;> simp [hx]) (i.busy pre d post hp)
  · rename_i e
    refine ⟨?_, i.compat, ?_⟩
    · show (ids (t.hs ++ (t.ws ++ [c]))).Nodup
      rw [← List.append_assoc, ids_append]
      exact hone
    · intro pre d post hp
      rcases cons_split hp with ⟨x, h1, h2⟩ | ⟨x, h1, h2⟩
      · exact i.busy pre d x h1
      · cases x with
        | nil =>
          simp at h1 h2
          rw [h1, ← h2.1]
          exact e
        | cons z x =>
          have := congrArg List.length h2
          simp at this
end P43
namespace Go.Proofs.YtjklhiifjnmedaaGreatDoor
open Go.RowKit Go.Maps

abbrev Nm := List UInt8
/-- Block b is a map from string (type kt) to bool (type et) of at most n entries; M tells the value at each name. -/
structure NMap (w : World) (P : Program) (kt et : TypeId) (b n : Nat) (M : Nm → Option Bool) : Prop where
  own : ∃ D : DataW Unit, w.ownsMap P kt (plainElem P et) b n D ∧ (∀ s, has D (.string s) = (M s).isSome) ∧ ∀ s x, M s = some x → ∀ z, D.atKey (.string s) z = .lit (.bool x)
/-- A value laid at a name. -/
def putN (M : Nm → Option Bool) (u : Nm) (x : Bool) : Nm → Option Bool := fun s => if s = u then some x else M s
section
variable {P : Program} {w w' : World} {kt et : TypeId} {b n : Nat} {M : Nm → Option Bool}
theorem isKey_str (s : Nm) : WideAt.IsKeyLit (.string s) := by simp [WideAt.IsKeyLit]
theorem NMap.made (w : World) (P : Program) (kt et : TypeId) : NMap (w.alloc (.map #[] 0)) P kt et w.heap.size 0 (fun _ => none) :=
  ⟨.map [], World.ownsMap_made _ _ _ _, fun _ => rfl, fun _ _ h => by cases h⟩
theorem NMap.lt (h : NMap w P kt et b n M) : b < w.heap.size := by
  obtain ⟨D, h1, _⟩ := h.own
  exact h1.lt
theorem NMap.kept {row : Option Nat} (h : NMap w P kt et b n M) (hg : w.grownBy w' row) (hne : some b ≠ row) : NMap w' P kt et b n M := by
  obtain ⟨D, h1, h2, h3⟩ := h.own
  exact ⟨D, h1.kept hg hne, h2, h3⟩
theorem NMap.below (h : NMap w P kt et b n M) (hb : Below w.heap.size w w') : NMap w' P kt et b n M :=
  h.kept (row := none) ⟨hb.os, hb.tape, hb.output, hb.size, fun k hk _ => hb.block k hk⟩ (by simp)
/-- What stays of it where its block stays. -/
theorem NMap.block (h : NMap w P kt et b n M) (hb : w'.heap[b]? = w.heap[b]?) : NMap w' P kt et b n M := by
  obtain ⟨D, ⟨es, clock, h0, F, hs, hD⟩, h2, h3⟩ := h.own
  exact ⟨D, ⟨es, clock, hb.trans h0, F, hs, hD⟩, h2, h3⟩
theorem NMap.mono (h : NMap w P kt et b n M) {m : Nat} (hm : n ≤ m) : NMap w P kt et b m M := by
  obtain ⟨D, h1, h2, h3⟩ := h.own
  exact ⟨D, h1.mono hm, h2, h3⟩
theorem NMap.alloc (h : NMap w P kt et b n M) (o : Obj) : NMap (w.alloc o) P kt et b n M := h.kept (World.grownBy_alloc w o none) (by simp)
theorem NMap.drew (h : NMap w P kt et b n M) : NMap w.drew P kt et b n M := by
  obtain ⟨D, h1, h2, h3⟩ := h.own
  exact ⟨D, h1, h2, h3⟩
theorem key_str (hk : P.underlying kt = some .string) {s : Nm} (hs : s.length ≤ maxLen) : keyOf P kt (.string ⟨s.toArray⟩) = some (.string s) := by
  have := WideMaps.keyOf_string_mk hk (s := ⟨s.toArray⟩) (by simpa [ByteArray.size] using hs)
  simpa using this
/-- The value at a name, as the map's datum has it. -/
theorem NMap.value (he : P.underlying et = some .bool) {D : DataW Unit} (h2 : ∀ s, has D (.string s) = (M s).isSome) (h3 : ∀ s x, M s = some x → ∀ z, D.atKey (.string s) z = .lit (.bool x)) {s : Nm} {v : Value} {ps : List MemPlace} (hv : plainElem P et v = some (D.atKey (.string s) (.lit (.bool false)), ps)) : v = .bool ((M s).getD false) := by
  unfold plainElem at hv
  rw [he] at hv
  cases hM : M s with
  | none =>
    have hn : has D (.string s) = false := by rw [h2, hM]; rfl
    rw [atKey_of_not_has hn] at hv
    cases v <;> simp at hv
    rw [hv.1]
    rfl
  | some x =>
    rw [h3 s x hM] at hv
    cases v <;> simp at hv
    rw [hv.1]
    rfl
/-- 'm[k]'. -/
theorem wpList_nm_look {ops : Array Oper} {rest : List Oper} {o : Oper} {a : Act} {Q : Exit → Act → World → Prop} (hg : o.guard = none) (m x : Operand) (t : TypeId) (hop : o.op = Op.lookup t m x false)
    (ht : P.underlying t = some (.map kt et)) (hk : P.underlying kt = some .string) (he : P.underlying et = some .bool) (hz : (zeroValue et).run P w = .ok (.bool false) w)
    (hm : a.eval m = .map (some b)) (hs : NMap w P kt et b n M) (u : Nm) (hu : u.length ≤ maxLen) (hx : a.eval x = .string ⟨u.toArray⟩)
    (hK : wpList P ops Q rest (a.put o.dst (.bool ((M u).getD false))) w) : wpList P ops Q (o :: rest) a w := by
  refine wpList_plain hg fun K' hK' => ?_
  obtain ⟨D, h1, h2, h3⟩ := hs.own
  obtain ⟨v, ps, hrun, hv⟩ := h1.lookup (string_keyed hk) ht hz (plainElem_bool he false) (key_str hk hu)
  have hval := NMap.value he h2 h3 hv
  subst hval
  unfold Oper.wp
  simp [execOp, hop, hm, hx, hrun, Result.andThen]
  exact hK' _ _ hK
/-- 'v, ok := m[k]'. -/
theorem wpList_nm_ok {ops : Array Oper} {rest : List Oper} {o : Oper} {a : Act} {Q : Exit → Act → World → Prop} (hg : o.guard = none) (m x : Operand) (t : TypeId) (hop : o.op = Op.lookup t m x true)
    (ht : P.underlying t = some (.map kt et)) (hk : P.underlying kt = some .string) (he : P.underlying et = some .bool) (hz : (zeroValue et).run P w = .ok (.bool false) w)
    (hm : a.eval m = .map (some b)) (hs : NMap w P kt et b n M) (u : Nm) (hu : u.length ≤ maxLen) (hx : a.eval x = .string ⟨u.toArray⟩)
    (hK : wpList P ops Q rest (a.put o.dst (.tuple #[.bool ((M u).getD false), .bool (M u).isSome])) w) : wpList P ops Q (o :: rest) a w := by
  obtain ⟨D, h1, h2, h3⟩ := hs.own
  refine wpList_lookup_own_ok w hg m x t hop kt et (string_keyed hk) ht (plainElem P et) hz (.lit (.bool false)) [] (plainElem_bool he false) b n D hm h1 _ _ hx (key_str hk hu) (fun v ps hv => ?_)
  have hval := NMap.value he h2 h3 hv
  subst hval
  rw [h2]
  exact hK
/-- 'm[k] = v'. -/
theorem wpList_nm_put {ops : Array Oper} {rest : List Oper} {o : Oper} {a : Act} {Q : Exit → Act → World → Prop} (hg : o.guard = none) (m x v : Operand) (t : TypeId) (hop : o.op = Op.mapUpdate t m x v)
    (ht : P.underlying t = some (.map kt et)) (hk : P.underlying kt = some .string) (he : P.underlying et = some .bool)
    (hm : a.eval m = .map (some b)) (hs : NMap w P kt et b n M) (hn : n < maxLen) (u : Nm) (hu : u.length ≤ maxLen) (hx : a.eval x = .string ⟨u.toArray⟩) (y : Bool) (hv : a.eval v = .bool y)
    (hK : ∀ w', NMap w' P kt et b (n + 1) (putN M u y) → w.grownBy w' (some b) → wpList P ops Q rest (a.put o.dst undef) w') : wpList P ops Q (o :: rest) a w := by
  obtain ⟨D, h1, h2, h3⟩ := hs.own
  refine wpList_mapUpdate_own w hg m x v t hop kt et (string_keyed hk) ht (plainElem P et) b n D hm h1 hn _ _ (.string u) hx hv (key_str hk hu) (.lit (.bool y)) [] (plainElem_bool he y) ?_
  intro w' hown hgr
  refine hK w' ⟨D.put (.string u) (.lit (.bool y)), hown, fun s => ?_, fun s z hz q => ?_⟩ hgr
  · unfold putN
    by_cases hsu : s = u
    · subst hsu
      rw [has_put_same h1.isMap (isKey_str s), if_pos rfl]
      rfl
    · rw [has_put_other (by simpa using hsu), h2, if_neg hsu]
  · unfold putN at hz
    by_cases hsu : s = u
    · subst hsu
      rw [if_pos rfl] at hz
      obtain rfl := Option.some.inj hz
      exact atKey_put_same h1.isMap (isKey_str s) _ _
    · rw [if_neg hsu] at hz
      rw [atKey_put_other (by simpa using hsu)]
      exact h3 s z hz q
/-- 'for k, v := range m' under way: 'left' tells which names are still to come, cnt how many. -/
structure NMapR (w : World) (P : Program) (kt et : TypeId) (b r n : Nat) (M : Nm → Option Bool) (left : Nm → Bool) (cnt : Nat) : Prop where
  own : ∃ (D : DataW Unit) (lf : Lit → Bool), w.ranges P kt (plainElem P et) b r n D lf cnt ∧ (∀ s, has D (.string s) = (M s).isSome) ∧ (∀ s x, M s = some x → ∀ z, D.atKey (.string s) z = .lit (.bool x)) ∧ (∀ s, lf (.string s) = left s) ∧ ∀ s, left s = true → (M s).isSome = true
theorem NMapR.map {r : Nat} {left : Nm → Bool} {cnt : Nat} (h : NMapR w P kt et b r n M left cnt) : NMap w P kt et b n M := by
  obtain ⟨D, lf, h1, h2, h3, _⟩ := h.own
  exact ⟨D, h1.owns, h2, h3⟩
theorem NMapR.kept {r : Nat} {left : Nm → Bool} {cnt : Nat} {row : Option Nat} (h : NMapR w P kt et b r n M left cnt) (hg : w.grownBy w' row) (hb : some b ≠ row) (hr : some r ≠ row) : NMapR w' P kt et b r n M left cnt := by
  obtain ⟨D, lf, h1, h2⟩ := h.own
  exact ⟨D, lf, h1.kept hg hb hr, h2⟩
theorem NMapR.lt {r : Nat} {left : Nm → Bool} {cnt : Nat} (h : NMapR w P kt et b r n M left cnt) : b < w.heap.size ∧ r < w.heap.size ∧ r ≠ b := by
  obtain ⟨D, lf, h1, _⟩ := h.own
  exact ⟨h1.owns.lt, h1.lt, h1.ne⟩
theorem NMapR.below {r : Nat} {left : Nm → Bool} {cnt : Nat} (h : NMapR w P kt et b r n M left cnt) (hb : Below w.heap.size w w') : NMapR w' P kt et b r n M left cnt :=
  h.kept (row := none) ⟨hb.os, hb.tape, hb.output, hb.size, fun k hk _ => hb.block k hk⟩ (by simp) (by simp)
theorem NMapR.count {r : Nat} {left : Nm → Bool} {cnt : Nat} (h : NMapR w P kt et b r n M left cnt) : w.rangeLeft b r = cnt := by
  obtain ⟨D, lf, h1, _⟩ := h.own
  exact h1.left_eq
/-- 'range m'. -/
theorem wpList_nm_range {ops : Array Oper} {rest : List Oper} {o : Oper} {a : Act} {Q : Exit → Act → World → Prop} (hg : o.guard = none) (m : Operand) (t : TypeId) (hop : o.op = Op.range t m)
    (ht : P.underlying t = some (.map kt et)) (hk : P.underlying kt = some .string) (hm : a.eval m = .map (some b)) (hs : NMap w P kt et b n M)
    (hK : ∀ w' cnt, NMapR w' P kt et b w.heap.size n M (fun s => (M s).isSome) cnt → w.grownBy w' none → w'.heap.size = w.heap.size + 1 → wpList P ops Q rest (a.put o.dst (.pointer (some ⟨w.heap.size, 0, none⟩))) w') : wpList P ops Q (o :: rest) a w := by
  obtain ⟨D, h1, h2, h3⟩ := hs.own
  exact wpList_range_own w hg m t hop kt et (string_keyed hk) ht (plainElem P et) b n D hm h1 (fun w' hr hgr hsz => hK w' _ ⟨D, _, hr, h2, h3, h2, fun _ h => h⟩ hgr hsz)
/-- The next name, whichever it is. -/
theorem wpList_nm_next {ops : Array Oper} {rest : List Oper} {o : Oper} {a : Act} {Q : Exit → Act → World → Prop} {r : Nat} {left : Nm → Bool} {cnt : Nat} (hg : o.guard = none) (it : Operand) (hop : o.op = Op.next it false)
    (hk : P.underlying kt = some .string) (he : P.underlying et = some .bool) (hit : a.eval it = .pointer (some ⟨r, 0, none⟩)) (hs : NMapR w P kt et b r n M left cnt)
    (hDone : (∀ x, left x = false) → wpList P ops Q rest (a.put o.dst (.tuple #[.bool false])) w)
    (hMore : ∀ (s : Nm) (x : Bool) (w' : World) (cnt' : Nat), s.length ≤ maxLen → left s = true → M s = some x → NMapR w' P kt et b r n M (fun y => left y && decide (y ≠ s)) cnt' → cnt' < cnt → w.grownBy w' (some r) → w'.heap.size = w.heap.size → (Instr.entry (.pointer (some ⟨r, 0, none⟩))).run P w' = .ok (.tuple #[.string ⟨s.toArray⟩, .bool x]) w' → wpList P ops Q rest (a.put o.dst (.tuple #[.bool true, .string ⟨s.toArray⟩, .bool x])) w') : wpList P ops Q (o :: rest) a w := by
  obtain ⟨D, lf, h1, h2, h3, h4, h5⟩ := hs.own
  refine wpList_next_ranges w hg it hop kt (string_keyed hk) (plainElem P et) (fun s : Nm => Value.string ⟨s.toArray⟩) Value.bool (fun key kl hkey => by obtain ⟨s, rfl, _⟩ := WideMaps.string_of_keyOf hk hkey; exact ⟨s.data.toList, rfl⟩) (fun v y hv => by
    unfold plainElem at hv
    rw [he] at hv
    cases v <;> simp at hv
    exact ⟨_, rfl⟩) b r n D lf cnt hit h1 (fun _ hl => hDone (fun x => by rw [← h4]; exact hl _)) ?_
  intro s c kl y w' cnt' hkey hlk hv hat hrg hlt hgr hsz hen
  obtain ⟨s', es, ekl, hws⟩ := WideMaps.string_of_keyOf hk hkey
  have hs' : s' = ⟨s.toArray⟩ := by injection es with e; exact e.symm
  subst hs'
  have ekl2 : kl = .string s := by rw [ekl]
  subst ekl2
  have hls : left s = true := by rw [← h4]; exact hlk
  obtain ⟨x, hx⟩ : ∃ x, M s = some x := Option.isSome_iff_exists.1 (h5 s hls)
  have hc : c = x := by
    have e := hat (.lit (.bool false))
    rw [h3 s x hx] at e
    unfold plainElem at hv
    rw [he] at hv
    simp at hv
    rw [← hv] at e
    simp at e
    exact e.symm
  subst hc
  refine hMore s c w' cnt' (by simpa [ByteArray.size] using hws) hls hx ⟨D, _, hrg, h2, h3, fun z => ?_, fun z hz => ?_⟩ hlt hgr hsz hen
  · rw [h4]
    congr 1
    simp [Lit.sameKey]
    rw [Bool.eq_iff_iff]
    simp
  · simp at hz
    exact h5 z hz.1
end
end Go.Proofs.YtjklhiifjnmedaaGreatDoor
namespace P43
/-- A call: its kind, its owner, the locks, a name. -/
structure OpL where
  (kind owner : Int) (l : List (Nm × Bool)) (name : Nm)
  deriving DecidableEq
def leN (a b : Nm × Bool) : Bool := decide (a.1 ≤ b.1)
def sortN (l : List (Nm × Bool)) : List (Nm × Bool) := l.mergeSort leN
def names (l : List (Nm × Bool)) : List Nm := l.map (·.1)
/-- The names are different and stand in order. -/
structure Srt (l : List (Nm × Bool)) : Prop where
  up : l.Pairwise fun a b => leN a b = true
  once : (names l).Nodup
theorem sortN_perm (l : List (Nm × Bool)) : (sortN l).Perm l := List.mergeSort_perm _ _
theorem leN_trans (a b c : Nm × Bool) (h : leN a b = true) (k : leN b c = true) : leN a c = true := by
  simp only [leN, decide_eq_true_eq] at *
  exact List.le_trans h k
theorem leN_total (a b : Nm × Bool) : (leN a b || leN b a) = true := by
  simp only [leN, Bool.or_eq_true, decide_eq_true_eq]
  exact List.le_total _ _
theorem sortN_srt {l : List (Nm × Bool)} (h : (names l).Nodup) : Srt (sortN l) :=
  ⟨List.pairwise_mergeSort leN_trans leN_total l, ((sortN_perm l).map _).nodup_iff.2 h⟩
/-- A list is a wish. -/
def wishB (vb : Nm → Bool) (l : List (Nm × Bool)) : Bool := decide (l.length ≤ 256) && decide (names l).Nodup && l.all fun p => vb p.1
def inT (t : T) (o : Int) : Bool := decide (o ∈ ids (t.hs ++ t.ws))
def requestP (vb : Nm → Bool) (t : T) (o : Int) (l : List (Nm × Bool)) : T × Bool × Int :=
  if (decide (1 ≤ o ∧ o ≤ 1099511627776) && wishB vb l) = false then (t, false, 1) else if inT t o = true then (t, false, 5) else ((enter t ⟨o, sortN l⟩).1, (enter t ⟨o, sortN l⟩).2, 0)
def releaseP (t : T) (o : Int) : T × List Int × Int := if inT t o = true then ((release t o).1, (release t o).2, 0) else (t, [], 6)
/-- The wish of a holder; nothing for any other owner. -/
def heldP (t : T) (o : Int) : List (Nm × Bool) := ((t.hs.find? fun c => decide (c.id = o)).map (·.ns)).getD []
def shareP (t : T) (o : Int) (s : Nm) : T × List Int × Int := if s ∈ names (heldP t o) then ((share t o s).1, (share t o s).2, 0) else (t, [], 6)
/-- A call: the new table, whether the wish was granted at once, the owners that became holders, the error. -/
def callP (vb : Nm → Bool) (t : T) (o : OpL) : T × Bool × List Int × Int :=
  if o.kind = 0 then ((requestP vb t o.owner o.l).1, (requestP vb t o.owner o.l).2.1, [], (requestP vb t o.owner o.l).2.2)
  else if o.kind = 1 then ((releaseP t o.owner).1, false, (releaseP t o.owner).2.1, (releaseP t o.owner).2.2)
  else ((shareP t o.owner o.name).1, false, (shareP t o.owner o.name).2.1, (shareP t o.owner o.name).2.2)
def runP (vb : Nm → Bool) (l : List OpL) : T := l.foldl (fun t o => (callP vb t o).1) ⟨[], []⟩
/-- Calls that are short. -/
def Short (l : List OpL) : Prop := ∀ o ∈ l, o.l.length ≤ 12 ∧ o.name.length ≤ 60 ∧ ∀ p ∈ o.l, p.1.length ≤ 60
/-- A claim that a short call made. -/
structure GoodC (c : Cl) : Prop where
  srt : Srt c.ns
  len : c.ns.length ≤ 12
  nm : ∀ p ∈ c.ns, p.1.length ≤ 60
/-- What holds after the calls 'l'. -/
structure Good (t : T) (l : List OpL) : Prop where
  inv : Inv t
  good : ∀ c ∈ t.hs ++ t.ws, GoodC c
  own : ∀ c ∈ t.hs ++ t.ws, ∃ o ∈ l, o.owner = c.id
  len : (t.hs ++ t.ws).length ≤ l.length
theorem good_nil : Good ⟨[], []⟩ [] := ⟨inv_nil, by simp, by simp, by simp⟩
theorem look_sub (t : T) {c : Cl} (h : c ∈ (look t).1.hs ++ (look t).1.ws) : c ∈ t.hs ++ t.ws := by
  obtain ⟨g, r, h1, h2, h3, h4⟩ := lookGo_parts t.ws t.hs [] []
  unfold look at h
  rw [h1] at h
  simp only [List.nil_append, List.mem_append] at h ⊢
  rcases h with (h | h) | h
  · exact .inl h
  · exact .inr (h2.subset h)
  · exact .inr (h3.subset h)
theorem look_len (t : T) : ((look t).1.hs ++ (look t).1.ws).length = (t.hs ++ t.ws).length := by
  obtain ⟨g, r, h1, h2, h3, h4⟩ := lookGo_parts t.ws t.hs [] []
  unfold look
  rw [h1]
  have := h4.length_eq
  simp at this ⊢
  omega
theorem setF_names (c : Cl) (s : Nm) : names (setF c s).ns = names c.ns := by
  unfold names setF
  rw [List.map_map]
  refine List.map_congr_left fun p _ => ?_
  simp only [Function.comp]
  split <;> rfl
theorem setF_good {c : Cl} (h : GoodC c) (s : Nm) : GoodC (setF c s) := by
  refine ⟨⟨?_, by rw [setF_names]; exact h.srt.once⟩, by simpa [setF] using h.len, ?_⟩
  · refine List.pairwise_map.2 (h.srt.up.imp fun {a b} hab => ?_)
    simp only [leN, decide_eq_true_eq] at hab ⊢
    split <;> split <;> exact hab
  · intro p hp
    obtain ⟨q, hq, rfl⟩ := List.mem_map.1 hp
    split <;> exact h.nm q hq
theorem shareL_good {l : List Cl} (h : ∀ c ∈ l, GoodC c) (o : Int) (s : Nm) : ∀ c ∈ shareL l o s, GoodC c := by
  intro c hc
  obtain ⟨d, hd, rfl⟩ := List.mem_map.1 hc
  split
  · exact setF_good (h d hd) s
  · exact h d hd
theorem Good.more {t : T} {l : List OpL} (g : Good t l) (o : OpL) : Good t (l ++ [o]) :=
  ⟨g.inv, g.good, fun c hc => by obtain ⟨x, hx, e⟩ := g.own c hc; exact ⟨x, by simp [hx], e⟩, by have := g.len; simp at *; omega⟩
theorem Good.look {t : T} {l : List OpL} (hi : Inv (look t).1) (h1 : ∀ c ∈ t.hs ++ t.ws, GoodC c) (h2 : ∀ c ∈ t.hs ++ t.ws, ∃ o ∈ l, o.owner = c.id) (h3 : (t.hs ++ t.ws).length ≤ l.length) : Good (look t).1 l :=
  ⟨hi, fun c hc => h1 c (look_sub t hc), fun c hc => h2 c (look_sub t hc), by rw [look_len]; exact h3⟩
theorem good_request {vb : Nm → Bool} {t : T} {l : List OpL} (g : Good t l) (o : OpL) (ho : o.l.length ≤ 12 ∧ o.name.length ≤ 60 ∧ ∀ p ∈ o.l, p.1.length ≤ 60) : Good (requestP vb t o.owner o.l).1 (l ++ [o]) := by
  unfold requestP
  split
  · exact g.more o
  · rename_i h1
    split
    · exact g.more o
    · rename_i h2
      have hn : o.owner ∉ ids (t.hs ++ t.ws) := by simpa [inT] using h2
      have hw : (names o.l).Nodup := by
        have h3 := (Bool.not_eq_false _).mp h1
        simp only [wishB, Bool.and_eq_true, decide_eq_true_eq] at h3
        exact h3.2.1.2
      have gc : GoodC ⟨o.owner, sortN o.l⟩ := ⟨sortN_srt hw, by rw [(sortN_perm _).length_eq]; exact ho.1, fun p hp => ho.2.2 p ((sortN_perm _).subset hp)⟩
      have hm : ∀ c ∈ (enter t ⟨o.owner, sortN o.l⟩).1.hs ++ (enter t ⟨o.owner, sortN o.l⟩).1.ws, c ∈ t.hs ++ t.ws ∨ c = ⟨o.owner, sortN o.l⟩ := by
        intro c hc
        unfold enter at hc
        split at hc <;> simp at hc ⊢ <;> rcases hc with h | h | h <;> simp [h]
      refine ⟨enter_inv g.inv hn, fun c hc => ?_, fun c hc => ?_, ?_⟩
      · rcases hm c hc with h | rfl
        · exact g.good c h
        · exact gc
      · rcases hm c hc with h | rfl
        · obtain ⟨x, hx, e⟩ := g.own c h
          exact ⟨x, by simp [hx], e⟩
        · exact ⟨o, by simp, rfl⟩
      · have := g.len
        unfold enter
        split <;> simp at this ⊢ <;> omega
theorem good_release {t : T} {l : List OpL} (g : Good t l) (o : Int) : Good (releaseP t o).1 l := by
  unfold releaseP
  split
  · have hm : ∀ c ∈ drop t.hs o ++ drop t.ws o, c ∈ t.hs ++ t.ws := by
      intro c hc
      simp only [List.mem_append, mem_drop] at hc ⊢
      rcases hc with h | h
      · exact .inl h.1
      · exact .inr h.1
    refine Good.look (t := ⟨drop t.hs o, drop t.ws o⟩) (release_inv g.inv o) (fun c hc => g.good c (hm c hc)) (fun c hc => g.own c (hm c hc)) ?_
    have := g.len
    have h1 := (drop_sub t.hs o).length_le
    have h2 := (drop_sub t.ws o).length_le
    simp at this ⊢
    omega
  · exact g
theorem good_share {t : T} {l : List OpL} (g : Good t l) (o : Int) (s : Nm) : Good (shareP t o s).1 l := by
  unfold shareP
  split
  · refine Good.look (t := ⟨shareL t.hs o s, t.ws⟩) (share_inv g.inv o s) (fun c hc => ?_) (fun c hc => ?_) ?_
    · rcases List.mem_append.1 hc with h | h
      · exact shareL_good (fun c hc => g.good c (List.mem_append_left _ hc)) o s c h
      · exact g.good c (List.mem_append_right _ h)
    · rcases List.mem_append.1 hc with h | h
      · obtain ⟨y, hy, e, _⟩ := shareL_conf h
        rw [← e]
        exact g.own y (List.mem_append_left _ hy)
      · exact g.own c (List.mem_append_right _ h)
    · have := g.len
      simp [shareL] at this ⊢
      omega
  · exact g
theorem Good.app {t : T} {l : List OpL} (g : Good t l) (o : OpL) : Good t (l ++ [o]) := g.more o
theorem good_call {vb : Nm → Bool} {t : T} {l : List OpL} (g : Good t l) (o : OpL) (ho : o.l.length ≤ 12 ∧ o.name.length ≤ 60 ∧ ∀ p ∈ o.l, p.1.length ≤ 60) : Good (callP vb t o).1 (l ++ [o]) := by
  unfold callP
  split
  · exact good_request g o ho
  · split
    · exact (good_release g _).more o
    · exact (good_share g _ _).more o
theorem runP_snoc (vb : Nm → Bool) (l : List OpL) (o : OpL) : runP vb (l ++ [o]) = (callP vb (runP vb l) o).1 := by
  unfold runP
  rw [List.foldl_append]
  rfl
theorem good_run {vb : Nm → Bool} : ∀ (n : Nat) (l : List OpL), Short l → Good (runP vb (l.take n)) (l.take n)
  | 0, l, _ => by rw [List.take_zero]; exact good_nil
  | n + 1, l, hs => by
    rw [List.take_add_one]
    cases h : l[n]? with
    | none => simpa using good_run n l hs
    | some o =>
      show Good (runP vb (l.take n ++ [o])) (l.take n ++ [o])
      rw [runP_snoc]
      exact good_call (good_run n l hs) o (hs o (List.mem_of_getElem? h))
theorem good_runAll {vb : Nm → Bool} {l : List OpL} (hs : Short l) : Good (runP vb l) l := by
  have := good_run (vb := vb) l.length l hs
  rwa [List.take_length] at this
/-- A claim is found by its owner. -/
theorem find_id {l : List Cl} (h : (ids l).Nodup) {c : Cl} (hc : c ∈ l) : (l.find? fun x => decide (x.id = c.id)) = some c := by
  induction l with
  | nil => cases hc
  | cons a l ih =>
    have h' := List.nodup_cons.1 (show (a.id :: ids l).Nodup from h)
    rcases List.mem_cons.1 hc with rfl | hc
    · simp
    · have hne : a.id ≠ c.id := fun e => h'.1 (List.mem_map.2 ⟨c, hc, e.symm⟩)
      rw [List.find?_cons_of_neg (by simpa using hne)]
      exact ih h'.2 hc
theorem Inv.hold {t : T} (i : Inv t) : (ids t.hs).Nodup := by
  have := i.once
  rw [ids_append, List.nodup_append] at this
  exact this.1
theorem Inv.wait {t : T} (i : Inv t) : (ids t.ws).Nodup := by
  have := i.once
  rw [ids_append, List.nodup_append] at this
  exact this.2.1
theorem Inv.apart {t : T} (i : Inv t) {a b : Cl} (ha : a ∈ t.hs) (hb : b ∈ t.ws) : a.id ≠ b.id := by
  have := i.once
  rw [ids_append, List.nodup_append] at this
  exact this.2.2 _ (List.mem_map.2 ⟨a, ha, rfl⟩) _ (List.mem_map.2 ⟨b, hb, rfl⟩)
theorem held_mem {t : T} (i : Inv t) {c : Cl} (h : c ∈ t.hs) : heldP t c.id = c.ns := by
  unfold heldP
  rw [find_id i.hold h]
  rfl
theorem held_some {t : T} {o : Int} (h : heldP t o ≠ []) : ∃ c ∈ t.hs, c.id = o ∧ heldP t o = c.ns := by
  unfold heldP at h ⊢
  cases e : t.hs.find? fun c => decide (c.id = o) with
  | none => rw [e] at h; simp at h
  | some c => exact ⟨c, List.mem_of_find?_eq_some e, by simpa using List.find?_some e, rfl⟩
theorem held_none {t : T} {o : Int} (h : o ∉ ids t.hs) : heldP t o = [] := by
  cases e : heldP t o with
  | nil => rfl
  | cons p ps =>
    obtain ⟨c, hc, h1, _⟩ := held_some (t := t) (o := o) (by rw [e]; simp)
    exact absurd (List.mem_map.2 ⟨c, hc, h1⟩) h
theorem conf_ne {a b : Cl} (h : conf a b = true) : a.ns ≠ [] ∧ b.ns ≠ [] := by
  rw [conf_iff] at h
  obtain ⟨p, hp, q, hq, _⟩ := h
  exact ⟨fun e => (by rw [e] at hp; cases hp), fun e => (by rw [e] at hq; cases hq)⟩
end P43
namespace P43
def sortZ (l : List Int) : List Int := l.mergeSort fun x y => decide (x ≤ y)
theorem mem_sortZ {l : List Int} {n : Int} : n ∈ sortZ l ↔ n ∈ l := (List.mergeSort_perm l _).mem_iff
theorem len_sortZ (l : List Int) : (sortZ l).length = l.length := (List.mergeSort_perm l _).length_eq
theorem sortZ_nil {l : List Int} (h : l ≠ []) : sortZ l ≠ [] := fun e => h (List.eq_nil_of_length_eq_zero (by rw [← len_sortZ, e]; rfl))
/-- What a claim says of a name. -/
def val (ns : List (Nm × Bool)) (s : Nm) : Option Bool := (ns.find? fun p => decide (p.1 = s)).map (·.2)
theorem val_mem {ns : List (Nm × Bool)} {s : Nm} {x : Bool} (h : val ns s = some x) : (s, x) ∈ ns := by
  unfold val at h
  rw [Option.map_eq_some_iff] at h
  obtain ⟨⟨a, b⟩, h1, h2⟩ := h
  have h3 := List.mem_of_find?_eq_some h1
  have h4 := List.find?_some h1
  simp only [decide_eq_true_eq] at h4
  simp only at h2
  rw [← h4, ← h2]
  exact h3
theorem val_of {ns : List (Nm × Bool)} (hk : (names ns).Nodup) {s : Nm} {x : Bool} (h : (s, x) ∈ ns) : val ns s = some x := by
  induction ns with
  | nil => cases h
  | cons p ns ih =>
    have hk2 := List.nodup_cons.1 (show (p.1 :: names ns).Nodup from hk)
    unfold val
    rcases List.mem_cons.1 h with rfl | h
    · simp
    · have hne : p.1 ≠ s := fun e => hk2.1 (List.mem_map.2 ⟨(s, x), h, e.symm⟩)
      rw [List.find?_cons_of_neg (by simpa using hne)]
      exact ih hk2.2 h
/-- The holders of a name, and whether one has it exclusively. -/
def holdersP (t : T) (s : Nm) : List Int × Bool := (sortZ (ids (t.hs.filter fun c => (val c.ns s).isSome)), t.hs.any fun c => (val c.ns s).getD false)
/-- What stands ahead of an owner in a list, and its claim. -/
def cutAt : List Cl → Int → Option (List Cl × Cl)
  | [], _ => none
  | c :: l, o => if c.id = o then some ([], c) else (cutAt l o).map fun p => (c :: p.1, p.2)
theorem cutAt_some : ∀ {l : List Cl} {o : Int} {p : List Cl × Cl}, cutAt l o = some p → ∃ post, l = p.1 ++ p.2 :: post ∧ p.2.id = o
  | [], _, _, h => by cases h
  | c :: l, o, p, h => by
    rw [cutAt] at h
    split at h
    · cases h
      exact ⟨l, rfl, by assumption⟩
    · rw [Option.map_eq_some_iff] at h
      obtain ⟨q, h1, rfl⟩ := h
      obtain ⟨post, h2, h3⟩ := cutAt_some h1
      exact ⟨post, by rw [h2]; rfl, h3⟩
theorem cutAt_at : ∀ {pre post : List Cl} {c : Cl}, c.id ∉ ids pre → cutAt (pre ++ c :: post) c.id = some (pre, c)
  | [], post, c, _ => by simp [cutAt]
  | a :: pre, post, c, h => by
    have h1 : ¬ a.id = c.id := fun e => h (by simp [ids, e])
    rw [List.cons_append, cutAt, if_neg h1, cutAt_at (fun hm => h (by simp only [ids, List.map_cons, List.mem_cons]; exact .inr hm))]
    rfl
theorem cutAt_none : ∀ {l : List Cl} {o : Int}, o ∉ ids l → cutAt l o = none
  | [], _, _ => rfl
  | a :: l, o, h => by
    have h1 : ¬ a.id = o := fun e => h (by simp [ids, e])
    rw [cutAt, if_neg h1, cutAt_none (fun hm => h (by simp only [ids, List.map_cons, List.mem_cons]; exact .inr hm))]
    rfl
/-- The owners for which an owner waits. -/
def blocksP (t : T) (o : Int) : List Int := match cutAt t.ws o with
  | none => []
  | some p => sortZ (ids (blk t.hs p.2 ++ blk p.1 p.2))
/-- EnqueueExclusive, first part. -/
theorem ex_conf {t : T} (i : Inv t) {a b : Int} (h : a ≠ b) : conf ⟨a, heldP t a⟩ ⟨b, heldP t b⟩ = false := by
  cases hc : conf ⟨a, heldP t a⟩ ⟨b, heldP t b⟩ with
  | false => rfl
  | true =>
    obtain ⟨h1, h2⟩ := conf_ne hc
    obtain ⟨c, hc1, rfl, e1⟩ := held_some h1
    obtain ⟨d, hd1, rfl, e2⟩ := held_some h2
    rw [e1, e2] at hc
    rw [i.compat c hc1 d hd1 h] at hc
    cases hc
/-- EnqueueExclusive, second part. -/
theorem ex_holders {t : T} (i : Inv t) (hg : ∀ c ∈ t.hs, (names c.ns).Nodup) {a : Int} {x : Nm × Bool} (hx : x ∈ heldP t a) : a ∈ (holdersP t x.1).1 ∧ (x.2 = true → (holdersP t x.1).1.length ≤ 1) ∧ (holdersP t x.1).2 = x.2 := by
  have hne : heldP t a ≠ [] := fun e => by rw [e] at hx; cases hx
  obtain ⟨c, hc, rfl, e⟩ := held_some hne
  rw [e] at hx
  obtain ⟨s, y⟩ := x
  have hv := val_of (hg c hc) hx
  have key : ∀ d ∈ t.hs, ∀ z, val d.ns s = some z → (y || z) = true → d.id = c.id := by
    intro d hd z hz hyz
    by_cases he : d.id = c.id
    · exact he
    · have := i.compat c hc d hd (fun e => he e.symm)
      have h2 : conf c d = true := conf_iff.2 ⟨(s, y), hx, (s, z), val_mem hz, rfl, hyz⟩
      rw [h2] at this
      cases this
  have uniq : ∀ d ∈ t.hs, d.id = c.id → d = c := by
    intro d hd he
    have h1 := find_id i.hold hd
    have h2 := find_id i.hold hc
    rw [he, h2] at h1
    exact (Option.some.inj h1).symm
  refine ⟨?_, fun hy => ?_, ?_⟩
  · unfold holdersP
    rw [mem_sortZ]
    exact List.mem_map.2 ⟨c, List.mem_filter.2 ⟨hc, by simp [hv]⟩, rfl⟩
  · unfold holdersP
    rw [len_sortZ]
    have hall : ∀ n ∈ ids (t.hs.filter fun c => (val c.ns s).isSome), n = c.id := by
      intro n hn
      obtain ⟨d, hd, rfl⟩ := List.mem_map.1 hn
      obtain ⟨hd1, hd2⟩ := List.mem_filter.1 hd
      obtain ⟨z, hz⟩ := Option.isSome_iff_exists.1 hd2
      have hy' : y = true := hy
      exact key d hd1 z hz (by rw [hy']; rfl)
    have hnd : (ids (t.hs.filter fun c => (val c.ns s).isSome)).Nodup := by
      refine i.hold.sublist ?_
      unfold ids
      exact List.filter_sublist.map _
    generalize ids (t.hs.filter fun c => (val c.ns s).isSome) = l at hall hnd
    match l, hall, hnd with
    | [], _, _ => simp
    | [_], _, _ => simp
    | a :: b :: l, hall, hnd =>
      have h1 := hall a (by simp)
      have h2 := hall b (by simp)
      rw [h1, h2] at hnd
      simp at hnd
  · unfold holdersP
    show (t.hs.any fun c => (val c.ns s).getD false) = y
    cases y with
    | true =>
      rw [List.any_eq_true]
      exact ⟨c, hc, by simp [hv]⟩
    | false =>
      rw [List.any_eq_false]
      intro d hd
      cases hz : val d.ns s with
      | none => simp
      | some z =>
        cases z with
        | false => simp
        | true =>
          obtain rfl := uniq d hd (key d hd true hz rfl)
          rw [hv] at hz
          cases hz
theorem blk_app (a b : List Cl) (c : Cl) : blk (a ++ b) c = blk a c ++ blk b c := List.filter_append ..
theorem Inv.notPre {t : T} (i : Inv t) {pre post : List Cl} {c : Cl} (h : t.ws = pre ++ c :: post) : c.id ∉ ids pre := by
  have := i.wait
  rw [h, ids_append, List.nodup_append] at this
  exact fun hm => this.2.2 _ hm c.id (by simp [ids]) rfl
/-- EnqueueOrder. -/
theorem or_blocks {t : T} (i : Inv t) {pre post : List Cl} {c : Cl} (h : t.ws = pre ++ c :: post) : heldP t c.id = [] ∧ blocksP t c.id ≠ [] ∧ ∀ b ∈ blocksP t c.id, b ∈ ids pre ∨ heldP t b ≠ [] := by
  have hcut : cutAt t.ws c.id = some (pre, c) := by rw [h]; exact cutAt_at (i.notPre h)
  have hb : blocksP t c.id = sortZ (ids (blk t.hs c ++ blk pre c)) := by unfold blocksP; rw [hcut]
  refine ⟨held_none fun hm => ?_, ?_, ?_⟩
  · obtain ⟨d, hd, e⟩ := List.mem_map.1 hm
    exact i.apart hd (by rw [h]; simp) e
  · rw [hb]
    refine sortZ_nil fun e => i.busy pre c post h ?_
    rw [blk_app]
    exact List.map_eq_nil_iff.1 e
  · intro b hm
    rw [hb, mem_sortZ, ids_append, List.mem_append] at hm
    rcases hm with hm | hm
    · right
      obtain ⟨d, hd, rfl⟩ := List.mem_map.1 hm
      obtain ⟨h1, h2⟩ := mem_blk.1 hd
      rw [held_mem i h1]
      exact (conf_ne h2).1
    · left
      obtain ⟨d, hd, rfl⟩ := List.mem_map.1 hm
      exact List.mem_map.2 ⟨d, (mem_blk.1 hd).1, rfl⟩
/-- EnqueueMoves: what is still to be released is just who holds something. -/
structure Mv (t : T) (next : List Int) : Prop where
  inv : Inv t
  once : next.Nodup
  all : ∀ n, n ∈ next ↔ heldP t n ≠ []
theorem look_eq (t : T) : ∃ g r : List Cl, look t = (⟨t.hs ++ g, r⟩, ids g) ∧ g.Sublist t.ws ∧ r.Sublist t.ws ∧ (g ++ r).Perm t.ws := by
  obtain ⟨g, r, h1, h2, h3, h4⟩ := lookGo_parts t.ws t.hs [] []
  exact ⟨g, r, by unfold look; rw [h1]; simp, h2, h3, h4⟩
theorem mem_ids {l : List Cl} {c : Cl} (h : c ∈ l) : c.id ∈ ids l := List.mem_map.2 ⟨c, h, rfl⟩
theorem Inv.waitNe {t : T} (i : Inv t) {c : Cl} (h : c ∈ t.ws) : c.ns ≠ [] := by
  obtain ⟨pre, post, e⟩ := List.append_of_mem h
  have h1 := i.busy pre c post e
  intro e2
  apply h1
  rw [blk_nil]
  intro x hx
  cases hc : conf x c with
  | false => rfl
  | true => exact absurd e2 (conf_ne hc).2
theorem drop_ids {l : List Cl} {o n : Int} : n ∈ ids (drop l o) ↔ n ∈ ids l ∧ n ≠ o := by
  constructor
  · intro h
    obtain ⟨c, hc, rfl⟩ := List.mem_map.1 h
    obtain ⟨h1, h2⟩ := mem_drop.1 hc
    exact ⟨mem_ids h1, h2⟩
  · rintro ⟨h, hn⟩
    obtain ⟨c, hc, rfl⟩ := List.mem_map.1 h
    exact mem_ids (mem_drop.2 ⟨hc, hn⟩)
theorem drop_none {l : List Cl} {o : Int} (h : o ∉ ids l) : drop l o = l := by
  unfold drop
  rw [List.filter_eq_self]
  intro c hc
  simp only [decide_eq_true_eq]
  exact fun e => h (e ▸ mem_ids hc)
theorem Mv.step {t : T} {n : Int} {next : List Int} (m : Mv t (n :: next)) : inT t n = true ∧ Mv (release t n).1 (next ++ (release t n).2) ∧ (∀ k, k ∈ ids (release t n).1.ws ↔ k ∈ ids t.ws ∧ k ∉ (release t n).2) ∧ ((release t n).1.hs ++ (release t n).1.ws).length + 1 = (t.hs ++ t.ws).length := by
  have hh : heldP t n ≠ [] := (m.all n).1 (by simp)
  obtain ⟨c, hc, rfl, _⟩ := held_some hh
  have hnw : c.id ∉ ids t.ws := fun hm => by
    obtain ⟨d, hd, e⟩ := List.mem_map.1 hm
    exact m.inv.apart hc hd e.symm
  have hdw : drop t.ws c.id = t.ws := drop_none hnw
  obtain ⟨g, r, h1, h2, h3, h4⟩ := look_eq ⟨drop t.hs c.id, drop t.ws c.id⟩
  rw [hdw] at h2 h3 h4
  have hrel : release t c.id = (⟨drop t.hs c.id ++ g, r⟩, ids g) := h1
  have hinv := release_inv m.inv c.id
  rw [hrel] at hinv ⊢
  have hnd := List.nodup_cons.1 m.once
  have hgr : ∀ k, k ∈ ids t.ws ↔ k ∈ ids g ∨ k ∈ ids r := fun k => by
    have := (h4.map (·.id)).mem_iff (a := k)
    rw [List.map_append, List.mem_append] at this
    exact this.symm
  have hgrd : ∀ k, k ∈ ids g → k ∉ ids r := fun k hk hr => by
    obtain ⟨d, hd, e⟩ := List.mem_map.1 hk
    obtain ⟨d', hd', e'⟩ := List.mem_map.1 hr
    exact hinv.apart (a := d) (b := d') (by simp [hd]) hd' (by rw [e, e'])
  refine ⟨by simp only [inT, decide_eq_true_eq, ids_append]; exact List.mem_append_left _ (mem_ids hc), ⟨hinv, ?_, fun k => ?_⟩, fun k => ?_, ?_⟩
  · rw [List.nodup_append]
    refine ⟨hnd.2, ?_, ?_⟩
    · have := hinv.hold
      simp only [ids_append, List.nodup_append] at this
      exact this.2.1
    · intro a ha b hb e
      subst e
      obtain ⟨d, hd, e1, _⟩ := held_some ((m.all a).1 (by simp [ha]))
      obtain ⟨d', hd', e2⟩ := List.mem_map.1 hb
      exact m.inv.apart hd (h2.subset hd') (by rw [e1, e2])
  · rw [List.mem_append]
    constructor
    · rintro (hk | hk)
      · obtain ⟨d, hd, rfl, e⟩ := held_some ((m.all k).1 (by simp [hk]))
        have hne : d.id ≠ c.id := fun e => hnd.1 (e ▸ hk)
        rw [held_mem hinv (c := d) (by simp [mem_drop, hd, hne])]
        have := (m.all d.id).1 (by simp [hk])
        rwa [e] at this
      · obtain ⟨d, hd, rfl⟩ := List.mem_map.1 hk
        rw [held_mem hinv (c := d) (by simp [hd])]
        exact m.inv.waitNe (h2.subset hd)
    · intro hk
      obtain ⟨d, hd, rfl, e⟩ := held_some hk
      rcases List.mem_append.1 hd with hd1 | hd1
      · left
        obtain ⟨hd2, hd3⟩ := mem_drop.1 hd1
        have : d.id ∈ c.id :: next := (m.all d.id).2 (by rw [held_mem m.inv hd2, ← e]; exact hk)
        exact (List.mem_cons.1 this).resolve_left hd3
      · exact .inr (mem_ids hd1)
  · rw [hgr]
    exact ⟨fun hk => ⟨.inr hk, fun hg => hgrd k hg hk⟩, fun ⟨h, hn⟩ => h.resolve_left hn⟩
  · have hl := h4.length_eq
    have hd : (drop t.hs c.id).length + 1 = t.hs.length := by
      have hh := m.inv.hold
      clear hnw hdw h1 h2 h3 h4 hrel hinv hgr hgrd hl
      generalize t.hs = l at hc hh
      induction l with
      | nil => cases hc
      | cons a l ih =>
        have h' := List.nodup_cons.1 (show (a.id :: ids l).Nodup from hh)
        rcases List.mem_cons.1 hc with rfl | hc
        · have : drop (c :: l) c.id = drop l c.id := by simp [drop]
          rw [this, drop_none h'.1]
          rfl
        · have hne : a.id ≠ c.id := fun e => h'.1 (e ▸ mem_ids hc)
          have : drop (a :: l) c.id = a :: drop l c.id := by simp [drop, hne]
          rw [this]
          simp only [List.length_cons]
          rw [ih hc h'.2]
    simp at hl ⊢
    omega
theorem Mv.done {t : T} (m : Mv t []) : t.ws = [] := by
  cases h : t.ws with
  | nil => rfl
  | cons c post =>
    exfalso
    refine m.inv.busy [] c post h ?_
    rw [List.append_nil, blk_nil]
    intro x hx
    cases hc : conf x c with
    | false => rfl
    | true =>
      have h1 : heldP t x.id ≠ [] := by rw [held_mem m.inv hx]; exact (conf_ne hc).1
      have := (m.all x.id).2 h1
      cases this
end P43
namespace P43
theorem pair_sub {α : Type} {R : α → α → Prop} : ∀ {S L : List α}, S.Sublist L → L.Nodup → S.Pairwise R → L.Pairwise fun a b => a ∈ S → b ∈ S → R a b
  | _, _, .slnil, _, _ => .nil
  | S, a :: L, .cons _ h, hn, hp => by
    have hn' := List.nodup_cons.1 hn
    exact List.Pairwise.cons (fun b _ ha => absurd (h.subset ha) hn'.1) (pair_sub h hn'.2 hp)
  | a :: S, _ :: L, .cons_cons _ h, hn, hp => by
    have hn' := List.nodup_cons.1 hn
    have hp' := List.pairwise_cons.1 hp
    refine List.Pairwise.cons (fun b hb _ hbs => ?_) ((pair_sub h hn'.2 hp'.2).imp_of_mem fun {x y} hx hy hxy hxs hys => ?_)
    · rcases List.mem_cons.1 hbs with rfl | hbs
      · exact absurd hb hn'.1
      · exact hp'.1 b hbs
    · rcases List.mem_cons.1 hxs with rfl | hxs
      · exact absurd hx hn'.1
      · rcases List.mem_cons.1 hys with rfl | hys
        · exact absurd hy hn'.1
        · exact hxy hxs hys
theorem pair_all {α : Type} {R : α → α → Prop} : ∀ {L : List α}, (∀ a ∈ L, ∀ b ∈ L, R a b) → L.Pairwise R
  | [], _ => .nil
  | a :: L, h => .cons (fun b hb => h a (by simp) b (by simp [hb])) (pair_all fun x hx y hy => h x (by simp [hx]) y (by simp [hy]))
theorem ahead_sub {α : Type} {p q pre post : List α} {c : α} (hnd : (pre ++ c :: post).Nodup) (hs : (p ++ c :: q).Sublist (pre ++ c :: post)) : ∀ x ∈ p, x ∈ pre := by
  intro x hx
  rcases List.mem_append.1 (hs.subset (List.mem_append_left _ hx)) with h | h
  · exact h
  · exfalso
    have hS := hnd.sublist hs
    rw [List.nodup_append] at hS
    obtain ⟨h1, h2, h3⟩ := hS
    have h2' := List.nodup_cons.1 h2
    have hR : (p ++ c :: q).Pairwise fun a b => ¬ (a = c ∧ b ∈ p) := by
      rw [List.pairwise_append]
      refine ⟨pair_all fun a ha b _ e => h3 a ha c (by simp) e.1, List.Pairwise.cons (fun b hb e => h3 b e.2 b (by simp [hb]) rfl) (pair_all fun a ha b _ e => h2'.1 (e.1 ▸ ha)), fun a ha b _ e => h3 a ha c (by simp) e.1⟩
    have hL := pair_sub hs hnd hR
    rw [List.pairwise_append] at hL
    rcases List.mem_cons.1 h with rfl | h
    · exact h3 x hx x (by simp) rfl
    · exact (List.pairwise_cons.1 hL.2.1).1 x h (by simp) (by simp [hx]) ⟨rfl, hx⟩
theorem ids_once {l : List Cl} (h : (ids l).Nodup) : l.Nodup := by
  unfold ids at h
  exact List.Pairwise.of_map (R := (· ≠ ·)) (S := (· ≠ ·)) _ (fun a b hab e => hab (by rw [e])) h
/-- Who goes on conflicts with nobody that waits before it and waits on. -/
theorem lookGo_fair : ∀ (rest h st : List Cl) (out : List Int), (ids (h ++ (st ++ rest))).Nodup → rest.Pairwise (fun c x => c ∈ (lookGo h st rest out).1.ws → x ∈ (lookGo h st rest out).1.hs → conf c x = false) ∧
    ∀ c ∈ st, ∀ x ∈ rest, x ∈ (lookGo h st rest out).1.hs → conf c x = false
  | [], h, st, out, _ => ⟨.nil, fun _ _ x hx => by cases hx⟩
  | y :: rest, h, st, out, hn => by
    have hinh : ∀ {a : Cl} {hh ss : List Cl} {oo : List Int}, (ids (hh ++ (ss ++ rest))).Nodup → a ∈ (lookGo hh ss rest oo).1.hs → a ∈ ss → False := by
      intro a hh ss oo hnd ha1 ha2
      obtain ⟨g, r, e, h2, h3, h4⟩ := lookGo_parts rest hh ss oo
      rw [e] at ha1
      simp only [ids_append, List.nodup_append] at hnd
      rcases List.mem_append.1 ha1 with h5 | h5
      · exact hnd.2.2 _ (mem_ids h5) _ (List.mem_append_left _ (mem_ids ha2)) rfl
      · exact hnd.2.1.2.2 _ (mem_ids ha2) _ (mem_ids (h2.subset h5)) rfl
    rw [lookGo]
    split
    · rename_i hb
      have hn' : (ids (h ++ [y] ++ (st ++ rest))).Nodup := by
        have hp : (ids (h ++ [y] ++ (st ++ rest))).Perm (ids (h ++ (st ++ y :: rest))) := by
          unfold ids
          refine List.Perm.map _ ?_
          rw [List.append_assoc]
          refine List.Perm.append_left h ?_
          exact (List.perm_middle (l₁ := st) (l₂ := rest) (a := y)).symm
        exact hp.nodup_iff.2 hn
      obtain ⟨i1, i2⟩ := lookGo_fair rest (h ++ [y]) st (out ++ [y.id]) hn'
      refine ⟨List.Pairwise.cons (fun x hx hy1 _ => ?_) i1, fun c hc x hx hxh => ?_⟩
      · exfalso
        obtain ⟨g, r, e, h2, h3, h4⟩ := lookGo_parts rest (h ++ [y]) st (out ++ [y.id])
        rw [e] at hy1
        simp only [ids_append, List.nodup_append] at hn'
        have hyi : y.id ∈ ids h ++ ids [y] := List.mem_append_right _ (by simp [ids])
        rcases List.mem_append.1 hy1 with h5 | h5
        · exact hn'.2.2 _ hyi _ (List.mem_append_left _ (mem_ids h5)) rfl
        · exact hn'.2.2 _ hyi _ (List.mem_append_right _ (mem_ids (h3.subset h5))) rfl
      · rcases List.mem_cons.1 hx with rfl | hx
        · rw [blk_nil] at hb
          exact hb c (List.mem_append_right _ hc)
        · exact i2 c hc x hx hxh
    · rename_i hb
      have hn' : (ids (h ++ (st ++ [y] ++ rest))).Nodup := by simpa using hn
      obtain ⟨i1, i2⟩ := lookGo_fair rest h (st ++ [y]) out hn'
      refine ⟨List.Pairwise.cons (fun x hx _ hxh => i2 y (by simp) x hx hxh) i1, fun c hc x hx hxh => ?_⟩
      rcases List.mem_cons.1 hx with rfl | hx
      · exact absurd (hinh hn' hxh (by simp)) id
      · exact i2 c (by simp [hc]) x hx hxh
/-- What stays true from the state t0 on while owners go away. -/
structure Fr (t0 t : T) : Prop where
  inv : Inv t
  sub : t.ws.Sublist t0.ws
  hold : ∀ x ∈ t.hs, x ∈ t0.hs ∨ x ∈ t0.ws
  fair : t0.ws.Pairwise fun c x => c ∈ t.ws → x ∈ t.hs → conf c x = false
theorem Fr.start {t : T} (i : Inv t) : Fr t t :=
  ⟨i, List.Sublist.refl _, fun _ hx => .inl hx, pair_all (fun _ _ _ hx _ hxh => absurd rfl (i.apart hxh hx))⟩
theorem Fr.release {t0 t : T} (f : Fr t0 t) (i0 : Inv t0) (n : Int) : Fr t0 (release t n).1 ∧ (∀ x ∈ (release t n).1.hs, x.id ≠ n) ∧ (∀ x ∈ (release t n).1.ws, x.id ≠ n) ∧ (∀ x ∈ (release t n).1.hs, x ∈ t0.hs → x ∈ t.hs) ∧ ∀ x ∈ (release t n).1.hs ++ (release t n).1.ws, x ∈ t.hs ++ t.ws := by
  obtain ⟨g, r, h1, h2, h3, h4⟩ := look_eq ⟨drop t.hs n, drop t.ws n⟩
  have hrel : P43.release t n = (⟨drop t.hs n ++ g, r⟩, ids g) := h1
  have hinv := release_inv f.inv n
  have hn : (ids (drop t.hs n ++ ([] ++ drop t.ws n))).Nodup := by
    have h0 := f.inv.once
    refine h0.sublist ?_
    unfold ids
    rw [List.nil_append]
    exact ((drop_sub _ _).append (drop_sub _ _)).map _
  have hf := (lookGo_fair (drop t.ws n) (drop t.hs n) [] [] hn).1
  rw [show lookGo (drop t.hs n) [] (drop t.ws n) [] = (⟨drop t.hs n ++ g, r⟩, ids g) from h1] at hf
  rw [hrel] at hinv ⊢
  simp only at hf h2 h3 h4
  have hw0 := ids_once i0.wait
  refine ⟨⟨hinv, h3.trans ((drop_sub _ _).trans f.sub), fun x hx => ?_, ?_⟩, fun x hx => ?_, fun x hx => (mem_drop.1 (h3.subset hx)).2, fun x hx hx0 => ?_, fun x hx => ?_⟩
  · rcases List.mem_append.1 hx with hx | hx
    · exact f.hold x (mem_drop.1 hx).1
    · exact .inr (f.sub.subset (mem_drop.1 (h2.subset hx)).1)
  · have hp := pair_sub ((drop_sub t.ws n).trans f.sub) hw0 hf
    refine (f.fair.and hp).imp fun {c x} hcx hc hx => ?_
    rcases List.mem_append.1 hx with hx1 | hx1
    · exact hcx.1 (mem_drop.1 (h3.subset hc)).1 (mem_drop.1 hx1).1
    · exact hcx.2 (h3.subset hc) (h2.subset hx1) hc hx
  · rcases List.mem_append.1 hx with hx | hx
    · exact (mem_drop.1 hx).2
    · exact (mem_drop.1 (h2.subset hx)).2
  · rcases List.mem_append.1 hx with hx | hx
    · exact (mem_drop.1 hx).1
    · exact absurd rfl (i0.apart hx0 (f.sub.subset (mem_drop.1 (h2.subset hx)).1))
  · simp only [List.mem_append] at hx ⊢
    rcases hx with (hx | hx) | hx
    · exact .inl (mem_drop.1 hx).1
    · exact .inr (mem_drop.1 (h2.subset hx)).1
    · exact .inr (mem_drop.1 (h3.subset hx)).1
/-- The end of EnqueueFair: who waited behind nobody that is still there, while no holder of old is left, waits no more. -/
theorem Fr.done {t0 t : T} (f : Fr t0 t) (i0 : Inv t0) {pre post : List Cl} {c : Cl} (h0 : t0.ws = pre ++ c :: post) (hh : ∀ x ∈ t0.hs, x.ns ≠ [] → x ∉ t.hs) (hp : ∀ x ∈ pre, x ∉ t.hs ++ t.ws) : c.id ∉ ids t.ws := by
  intro hm
  have hc : c ∈ t.ws := by
    obtain ⟨d, hd, e⟩ := List.mem_map.1 hm
    have hd0 := f.sub.subset hd
    have hc0 : c ∈ t0.ws := by rw [h0]; simp
    have h1 := find_id i0.wait hd0
    have h2 := find_id i0.wait hc0
    rw [e, h2] at h1
    rw [Option.some.inj h1]
    exact hd
  obtain ⟨p, q, e⟩ := List.append_of_mem hc
  have hbusy := f.inv.busy p c q e
  apply hbusy
  rw [blk_nil]
  intro x hx
  cases hcf : conf x c with
  | false => rfl
  | true =>
    exfalso
    have hxn := (conf_ne hcf).1
    rcases List.mem_append.1 hx with hx | hx
    · rcases f.hold x hx with h1 | h1
      · exact hh x h1 hxn hx
      · rw [h0] at h1
        rcases List.mem_append.1 h1 with h1 | h1
        · exact hp x h1 (List.mem_append_left _ hx)
        · rcases List.mem_cons.1 h1 with rfl | h1
          · exact f.inv.apart hx hc rfl
          · have hf := f.fair
            rw [h0, List.pairwise_append] at hf
            have := (List.pairwise_cons.1 hf.2.1).1 x h1 hc hx
            rw [conf_comm, hcf] at this
            cases this
    · have hxw : x ∈ t.ws := by rw [e]; simp [hx]
      have hs := f.sub
      rw [e, h0] at hs
      have hnd := ids_once i0.wait
      rw [h0] at hnd
      have hxp : x ∈ pre := ahead_sub hnd hs x hx
      exact hp x hxp (List.mem_append_right _ hxw)
/-- What sharing leaves. -/
theorem share_facts {t : T} (i : Inv t) {o : Int} {s : Nm} (hs : s ∈ names (heldP t o)) :
    (∀ n ∈ (share t o s).2, n ∈ ids t.ws) ∧ (share t o s).2.Nodup ∧ (∀ n, heldP t n ≠ [] → (heldP (share t o s).1 n).length = (heldP t n).length) ∧ (holdersP (share t o s).1 s).2 = false ∧ s ∈ names (heldP (share t o s).1 o) ∧ (share t o s).1.ws.length + (share t o s).2.length = t.ws.length := by
  obtain ⟨g, r, h1, h2, h3, h4⟩ := look_eq ⟨shareL t.hs o s, t.ws⟩
  have hsh : share t o s = (⟨shareL t.hs o s ++ g, r⟩, ids g) := h1
  have hinv := share_inv i o s
  rw [hsh] at hinv ⊢
  simp only at h2 h3 h4
  have hmem : ∀ d ∈ t.hs, (if d.id = o then setF d s else d) ∈ shareL t.hs o s ++ g := fun d hd => List.mem_append_left _ (List.mem_map.2 ⟨d, hd, rfl⟩)
  have hheld : ∀ d ∈ t.hs, heldP ⟨shareL t.hs o s ++ g, r⟩ d.id = (if d.id = o then setF d s else d).ns := by
    intro d hd
    have := held_mem hinv (hmem d hd)
    rw [show (if d.id = o then setF d s else d).id = d.id by split <;> rfl] at this
    exact this
  have hne : heldP t o ≠ [] := fun e => by rw [e] at hs; cases hs
  obtain ⟨c, hc, rfl, ec⟩ := held_some hne
  rw [ec] at hs
  have hcn : heldP ⟨shareL t.hs c.id s ++ g, r⟩ c.id = (setF c s).ns := by rw [hheld c hc, if_pos rfl]
  refine ⟨fun n hn => ?_, ?_, fun n hn => ?_, ?_, ?_, ?_⟩
  · obtain ⟨d, hd, rfl⟩ := List.mem_map.1 hn
    exact mem_ids (h2.subset hd)
  · have := hinv.hold
    simp only [ids_append, List.nodup_append] at this
    exact this.2.1
  · obtain ⟨d, hd, rfl, ed⟩ := held_some hn
    rw [hheld d hd, ed]
    split
    · simp [setF]
    · rfl
  · unfold holdersP
    show (List.any _ _) = false
    rw [List.any_eq_false]
    intro d hd
    have hcm : setF c s ∈ shareL t.hs c.id s ++ g := by
      have := hmem c hc
      rwa [if_pos rfl] at this
    have hsf : (s, false) ∈ (setF c s).ns := by
      obtain ⟨p, hp, e⟩ := List.mem_map.1 hs
      exact List.mem_map.2 ⟨p, hp, by rw [if_pos e, e]⟩
    cases hv : val d.ns s with
    | none => simp
    | some z =>
      cases z with
      | false => simp
      | true =>
        exfalso
        have hm := val_mem hv
        by_cases he : d.id = c.id
        · have h5 := find_id hinv.hold hd
          have h6 := find_id hinv.hold hcm
          rw [setF_id] at h6
          rw [he, h6] at h5
          rw [← Option.some.inj h5] at hm
          obtain ⟨p, hp, e⟩ := List.mem_map.1 hm
          split at e
          · cases e
          · rename_i hps
            rw [e] at hps
            exact hps rfl
        · have h7 := hinv.compat (setF c s) hcm d hd (by rw [setF_id]; exact fun e => he e.symm)
          have h8 : conf (setF c s) d = true := conf_iff.2 ⟨(s, false), hsf, (s, true), hm, rfl, rfl⟩
          rw [h7] at h8
          cases h8
  · rw [hcn, setF_names]
    exact hs
  · have := h4.length_eq
    simp [ids] at this ⊢
    omega
end P43
namespace P43
/-- An owner that wants one name exclusively. -/
def one (s : Nm) (o : Int) : Cl := ⟨o, [(s, true)]⟩
theorem conf_one (s : Nm) (a b : Int) : conf (one s a) (one s b) = true := by simp [conf, one]
theorem sort_one (q : Nm × Bool) : sortN [q] = [q] := by simp [sortN]
theorem wish_one {vb : Nm → Bool} {s : Nm} (h : vb s = true) : wishB vb [(s, true)] = true := by simp [wishB, names, h]
theorem one_req {vb : Nm → Bool} {s : Nm} (h : vb s = true) {t : T} {o : Int} (h1 : 1 ≤ o) (h2 : o ≤ 1099511627776) (hn : o ∉ ids (t.hs ++ t.ws)) :
    requestP vb t o [(s, true)] = ((enter t (one s o)).1, (enter t (one s o)).2, 0) := by
  unfold requestP
  rw [if_neg (by simp [wish_one h, h1, h2]), if_neg (by simp [inT, hn]), sort_one]
  rfl
theorem one_req1 {vb : Nm → Bool} {s : Nm} (h : vb s = true) {a : Int} (h1 : 1 ≤ a) (h2 : a ≤ 1099511627776) :
    requestP vb ⟨[], []⟩ a [(s, true)] = (⟨[one s a], []⟩, true, 0) := by
  rw [one_req h h1 h2 (by simp [ids])]
  rfl
theorem one_req2 {vb : Nm → Bool} {s : Nm} (h : vb s = true) {a b : Int} (h1 : 1 ≤ b) (h2 : b ≤ 1099511627776) (hb : b ≠ a) :
    requestP vb ⟨[one s a], []⟩ b [(s, true)] = (⟨[one s a], [one s b]⟩, false, 0) := by
  rw [one_req h h1 h2 (by simp [ids, one, hb])]
  unfold enter
  rw [if_neg (by simp [blk, conf_one])]
  rfl
theorem one_req3 {vb : Nm → Bool} {s : Nm} (h : vb s = true) {a b c : Int} (h1 : 1 ≤ c) (h2 : c ≤ 1099511627776) (ha : c ≠ a) (hb : c ≠ b) :
    requestP vb ⟨[one s a], [one s b]⟩ c [(s, true)] = (⟨[one s a], [one s b, one s c]⟩, false, 0) := by
  rw [one_req h h1 h2 (by simp [ids, one, ha, hb])]
  unfold enter
  rw [if_neg (by simp [blk, conf_one])]
  rfl
theorem one_rel3 {s : Nm} {a b c : Int} (ha : c ≠ a) (hb : c ≠ b) :
    releaseP ⟨[one s a], [one s b, one s c]⟩ c = (⟨[one s a], [one s b]⟩, [], 0) := by
  unfold releaseP
  rw [if_pos (by simp [inT, ids, one])]
  unfold release look
  simp [drop, one, Ne.symm ha, Ne.symm hb, lookGo, blk, conf]
theorem one_rel4 {s : Nm} {a b : Int} (hb : b ≠ a) :
    releaseP ⟨[one s a], [one s b]⟩ a = (⟨[one s b], []⟩, [b], 0) := by
  unfold releaseP
  rw [if_pos (by simp [inT, ids, one])]
  unfold release look
  simp [drop, one, hb, lookGo, blk]
theorem one_held (s : Nm) (a : Int) (ws : List Cl) : heldP ⟨[one s a], ws⟩ a = [(s, true)] := by simp [heldP, one]
theorem one_not (s : Nm) {a b : Int} (ws : List Cl) (h : b ≠ a) : heldP ⟨[one s a], ws⟩ b = [] := by simp [heldP, one, Ne.symm h]
theorem one_good {s : Nm} (h : s.length ≤ 60) (a : Int) : GoodC (one s a) :=
  ⟨⟨by simp [one], by simp [one, names]⟩, by simp [one], fun p hp => by simp [one] at hp; subst hp; exact h⟩
/-- An owner that is to go is released. -/
def relStep (g : Int → Bool) (t : T) (u : Int) : T := if g u = true then (releaseP t u).1 else t
theorem lookGo_len : ∀ (rest h st : List Cl) (out : List Int), (lookGo h st rest out).1.hs.length + (lookGo h st rest out).1.ws.length = h.length + st.length + rest.length
  | [], h, st, out => by simp [lookGo]
  | c :: rest, h, st, out => by
    rw [lookGo]
    split
    · rw [lookGo_len]
      simp
      omega
    · rw [lookGo_len]
      simp
      omega
theorem rel_len (t : T) (u : Int) : (releaseP t u).1.hs.length + (releaseP t u).1.ws.length ≤ t.hs.length + t.ws.length := by
  unfold releaseP
  split
  · have h := lookGo_len (drop t.ws u) (drop t.hs u) [] []
    have h1 : (drop t.hs u).length ≤ t.hs.length := List.length_filter_le _ _
    have h2 : (drop t.ws u).length ≤ t.ws.length := List.length_filter_le _ _
    show (lookGo (drop t.hs u) [] (drop t.ws u) []).1.hs.length + (lookGo (drop t.hs u) [] (drop t.ws u) []).1.ws.length ≤ _
    rw [h]
    simp
    omega
  · exact Nat.le_refl _
theorem relStep_len (g : Int → Bool) (t : T) (u : Int) : (relStep g t u).hs.length + (relStep g t u).ws.length ≤ t.hs.length + t.ws.length := by
  unfold relStep
  split
  · exact rel_len t u
  · exact Nat.le_refl _
theorem rels_len (g : Int → Bool) : ∀ (us : List Int) (t : T), (us.foldl (relStep g) t).hs.length + (us.foldl (relStep g) t).ws.length ≤ t.hs.length + t.ws.length
  | [], _ => Nat.le_refl _
  | u :: us, t => Nat.le_trans (rels_len g us (relStep g t u)) (relStep_len g t u)
end P43
namespace P43
theorem inT_held {t : T} {o : Int} (h : heldP t o ≠ []) : inT t o = true := by
  obtain ⟨c, hc, rfl, _⟩ := held_some h
  simp only [inT, decide_eq_true_eq, ids_append]
  exact List.mem_append_left _ (mem_ids hc)
/-- What holds while EnqueueFair lets the holders go: 'L' are the owners that were met. -/
structure FairA (t0 t : T) (L : List Int) : Prop where
  fr : Fr t0 t
  gone : ∀ x ∈ t0.hs, x.ns ≠ [] → x.id ∈ L → x ∉ t.hs
theorem FairA.start {t : T} (i : Inv t) : FairA t t [] := ⟨Fr.start i, fun _ _ _ h => by cases h⟩
theorem FairA.free {t0 t : T} {L : List Int} (f : FairA t0 t L) (i0 : Inv t0) {o : Int} (h : heldP t o ≠ []) : FairA t0 (releaseP t o).1 (L ++ [o]) := by
  have e : (releaseP t o).1 = (release t o).1 := by unfold releaseP; rw [if_pos (inT_held h)]
  rw [e]
  obtain ⟨h1, h2, _, h4, _⟩ := f.fr.release i0 o
  refine ⟨h1, fun x hx hn hm hxh => ?_⟩
  rcases List.mem_append.1 hm with hm | hm
  · exact f.gone x hx hn hm (h4 x hxh hx)
  · exact h2 x hxh (List.mem_singleton.1 hm)
theorem FairA.pass {t0 t : T} {L : List Int} (f : FairA t0 t L) {o : Int} (h : heldP t o = []) : FairA t0 t (L ++ [o]) := by
  refine ⟨f.fr, fun x hx hn hm hxh => ?_⟩
  rcases List.mem_append.1 hm with hm | hm
  · exact f.gone x hx hn hm hxh
  · rw [← List.mem_singleton.1 hm, held_mem f.fr.inv hxh] at h
    exact hn h
/-- .. and then those that waited ahead. -/
structure FairB (t0 t : T) (k : Nat) : Prop where
  fr : Fr t0 t
  gone : ∀ x ∈ t0.hs, x.ns ≠ [] → x ∉ t.hs
  pre : ∀ x ∈ t0.ws.take k, x ∉ t.hs ++ t.ws
theorem FairB.start {t0 t : T} {L : List Int} (f : FairA t0 t L) (h : ∀ x ∈ t0.hs, x.id ∈ L) : FairB t0 t 0 := ⟨f.fr, fun x hx hn => f.gone x hx hn (h x hx), by simp⟩
theorem FairB.step {t0 t : T} {k : Nat} (f : FairB t0 t k) (i0 : Inv t0) {x : Cl} (hx : t0.ws[k]? = some x) : FairB t0 (releaseP t x.id).1 (k + 1) := by
  have htk : t0.ws.take (k + 1) = t0.ws.take k ++ [x] := by rw [List.take_add_one, hx]; rfl
  unfold releaseP
  split
  · obtain ⟨h1, h2, h3, h4, h5⟩ := f.fr.release i0 x.id
    refine ⟨h1, fun y hy hn hyh => f.gone y hy hn (h4 y hyh hy), fun y hy hyt => ?_⟩
    rw [htk] at hy
    rcases List.mem_append.1 hy with hy | hy
    · exact f.pre y hy (h5 y hyt)
    · rw [List.mem_singleton.1 hy] at hyt
      rcases List.mem_append.1 hyt with h | h
      · exact h2 x h rfl
      · exact h3 x h rfl
  · rename_i hin
    refine ⟨f.fr, f.gone, fun y hy hyt => ?_⟩
    rw [htk] at hy
    rcases List.mem_append.1 hy with hy | hy
    · exact f.pre y hy hyt
    · rw [List.mem_singleton.1 hy] at hyt
      apply hin
      simp only [inT, decide_eq_true_eq]
      exact mem_ids hyt
theorem split_k {α : Type} {l : List α} {k : Nat} {x : α} (h : l[k]? = some x) : l = l.take k ++ x :: l.drop (k + 1) := by
  obtain ⟨hk, e⟩ := List.getElem?_eq_some_iff.1 h
  rw [← e, ← List.drop_eq_getElem_cons hk, List.take_append_drop]
theorem FairB.done {t0 t : T} {k : Nat} (f : FairB t0 t k) (i0 : Inv t0) {x : Cl} (hx : t0.ws[k]? = some x) : x.id ∉ ids t.ws := f.fr.done i0 (split_k hx) f.gone f.pre
theorem blocks_none {t : T} {o : Int} (h : o ∉ ids t.ws) : blocksP t o = [] := by
  unfold blocksP
  rw [cutAt_none h]
/-- What EnqueueMoves collects: the owners met that hold something, each once. -/
structure Col (t : T) (L next : List Int) : Prop where
  once : next.Nodup
  all : ∀ n, n ∈ next ↔ n ∈ L ∧ heldP t n ≠ []
theorem Col.start (t : T) : Col t [] [] := ⟨by simp, by simp⟩
theorem Col.skip {t : T} {L next : List Int} (c : Col t L next) {o : Int} (h : heldP t o = [] ∨ o ∈ next) : Col t (L ++ [o]) next := by
  refine ⟨c.once, fun n => ?_⟩
  rw [c.all, List.mem_append, List.mem_singleton]
  constructor
  · exact fun ⟨a, b⟩ => ⟨.inl a, b⟩
  · rintro ⟨a | a, b⟩
    · exact ⟨a, b⟩
    · subst a
      rcases h with h | h
      · exact absurd h b
      · exact (c.all n).1 h
theorem Col.take {t : T} {L next : List Int} (c : Col t L next) {o : Int} (h : heldP t o ≠ []) (hn : o ∉ next) : Col t (L ++ [o]) (next ++ [o]) := by
  refine ⟨?_, fun n => ?_⟩
  · rw [List.nodup_append]
    exact ⟨c.once, by simp, fun a ha b hb e => hn (by rw [← List.mem_singleton.1 hb, ← e]; exact ha)⟩
  · rw [List.mem_append, c.all, List.mem_append, List.mem_singleton]
    constructor
    · rintro (⟨a, b⟩ | a)
      · exact ⟨.inl a, b⟩
      · exact ⟨.inr a, a ▸ h⟩
    · rintro ⟨a | a, b⟩
      · exact .inl ⟨a, b⟩
      · exact .inr a
theorem Col.mv {t : T} {L next : List Int} (c : Col t L next) (i : Inv t) (h : ∀ x ∈ t.hs, x.id ∈ L) : Mv t next := by
  refine ⟨i, c.once, fun n => ?_⟩
  rw [c.all]
  constructor
  · exact fun h => h.2
  · intro hn
    obtain ⟨x, hx, rfl, _⟩ := held_some hn
    exact ⟨h x hx, hn⟩
/-- One step of EnqueueMoves by the call. -/
theorem Mv.next {t : T} {n : Int} {next : List Int} (m : Mv t (n :: next)) : (releaseP t n).2.2 = 0 ∧ Mv (releaseP t n).1 (next ++ (releaseP t n).2.1) ∧ (∀ k, k ∈ ids (releaseP t n).1.ws ↔ k ∈ ids t.ws ∧ k ∉ (releaseP t n).2.1) ∧ ((releaseP t n).1.hs ++ (releaseP t n).1.ws).length + 1 = (t.hs ++ t.ws).length := by
  obtain ⟨h1, h2⟩ := m.step
  have e : releaseP t n = ((release t n).1, (release t n).2, 0) := by unfold releaseP; rw [if_pos h1]
  rw [e]
  exact ⟨rfl, h2⟩
end P43
namespace P43
theorem lookGo_stay : ∀ (post h pre : List Cl) (out : List Int), (∀ p c q, post = p ++ c :: q → blk (h ++ (pre ++ p)) c ≠ []) → lookGo h pre post out = (⟨h, pre ++ post⟩, out)
  | [], h, pre, out, _ => by rw [lookGo, List.append_nil]
  | c :: post, h, pre, out, hb => by
    rw [lookGo, if_neg (by simpa using hb [] c post rfl), lookGo_stay post h (pre ++ [c]) out (fun p d q e => by
      have := hb (c :: p) d q (by rw [e]; rfl)
      simpa using this)]
    simp
theorem look_stay {t : T} (i : Inv t) : look t = (t, []) := by
  unfold look
  rw [lookGo_stay t.ws t.hs [] [] (fun p c q e => by simpa using i.busy p c q e)]
  rfl
theorem setF_same {c : Cl} {s : Nm} (h : (s, true) ∉ c.ns) : setF c s = c := by
  unfold setF
  have : (c.ns.map fun p => if p.1 = s then (p.1, false) else p) = c.ns := by
    conv => rhs; rw [← List.map_id c.ns]
    refine List.map_congr_left fun p hp => ?_
    by_cases e : p.1 = s
    · rw [if_pos e]
      cases hv : p.2 with
      | false => exact Prod.ext rfl hv.symm
      | true => exact absurd (show (s, true) ∈ c.ns by rw [← e, ← hv]; exact hp) h
    · rw [if_neg e]
      rfl
  rw [this]
theorem share_same {t : T} (i : Inv t) (hk : ∀ c ∈ t.hs, (names c.ns).Nodup) {o : Int} {s : Nm} (h : (holdersP t s).2 = false) : share t o s = (t, []) := by
  have e : shareL t.hs o s = t.hs := by
    unfold shareL
    conv => rhs; rw [← List.map_id t.hs]
    refine List.map_congr_left fun c hc => ?_
    split
    · refine setF_same fun hm => ?_
      have hv := val_of (hk c hc) hm
      unfold holdersP at h
      have h1 : (t.hs.any fun c => (val c.ns s).getD false) = true := List.any_eq_true.2 ⟨c, hc, by rw [hv]; rfl⟩
      rw [show (t.hs.any fun c => (val c.ns s).getD false) = false from h] at h1
      cases h1
    · rfl
  unfold share
  rw [e]
  exact look_stay i
theorem share_left {t : T} (i : Inv t) (o : Int) (s : Nm) : ∀ x, x ∈ ids (share t o s).1.ws ↔ x ∈ ids t.ws ∧ x ∉ (share t o s).2 := by
  obtain ⟨g, r, h1, h2, h3, h4⟩ := look_eq ⟨shareL t.hs o s, t.ws⟩
  have hsh : share t o s = (⟨shareL t.hs o s ++ g, r⟩, ids g) := h1
  rw [hsh]
  have hp : (ids g ++ ids r).Perm (ids t.ws) := by
    rw [← ids_append]
    exact h4.map _
  have hn : (ids g ++ ids r).Nodup := hp.nodup_iff.2 i.wait
  rw [List.nodup_append] at hn
  intro x
  show x ∈ ids r ↔ x ∈ ids t.ws ∧ x ∉ ids g
  rw [← hp.mem_iff, List.mem_append]
  constructor
  · intro h
    exact ⟨.inr h, fun hg => hn.2.2 x hg x h rfl⟩
  · rintro ⟨h | h, hg⟩
    · exact absurd h hg
    · exact h
/-- What EnqueueShares asks, at once. -/
structure Shr (t t1 : T) (more : List Int) (o : Int) (s : Nm) : Prop where
  code : shareP t o s = (t1, more, 0)
  sub : ∀ n ∈ more, n ∈ ids t.ws
  once : more.Nodup
  same : ∀ n, heldP t n ≠ [] → (heldP t1 n).length = (heldP t n).length
  alone : (holdersP t1 s).2 = false
  again : shareP t1 o s = (t1, [], 0)
  left : ∀ x, x ∈ ids t1.ws ↔ x ∈ ids t.ws ∧ x ∉ more
theorem shr {t : T} {l : List OpL} (g : Good t l) {o : Int} {s : Nm} (h : s ∈ names (heldP t o)) : ∃ t1 more, Shr t t1 more o s ∧ Good t1 l := by
  obtain ⟨a1, a2, a3, a4, a5, _⟩ := share_facts g.inv h
  have hc : shareP t o s = ((share t o s).1, (share t o s).2, 0) := by unfold shareP; rw [if_pos h]
  have g1 : Good (share t o s).1 l := by
    have := good_share g o s
    rw [hc] at this
    exact this
  refine ⟨(share t o s).1, (share t o s).2, ⟨hc, a1, a2, a3, a4, ?_, share_left g.inv o s⟩, g1⟩
  unfold shareP
  rw [if_pos a5, share_same g1.inv (fun c hc => (g1.good c (List.mem_append_left _ hc)).srt.once) a4]
theorem shr_not {t : T} {o : Int} {s : Nm} (h : s ∉ names (heldP t o)) : shareP t o s = (t, [], 6) := by unfold shareP; rw [if_neg h]
end P43
namespace P43
/-- Two ascending lists of the same numbers are one. -/
theorem asc_eq {l m : List Int} (hl : l.Pairwise (· ≤ ·)) (hm : m.Pairwise (· ≤ ·)) (hp : l.Perm m) : l = m :=
  hp.eq_of_pairwise (fun a b _ _ h1 h2 => by omega) hl hm
theorem sortZ_asc (l : List Int) : (sortZ l).Pairwise (· ≤ ·) := by
  have := List.pairwise_mergeSort (le := fun x y : Int => decide (x ≤ y)) (fun a b c h1 h2 => by simp at *; omega) (fun a b => by simp; omega) l
  exact this.imp (fun h => by simpa using h)
theorem sortZ_perm (l : List Int) : (sortZ l).Perm l := List.mergeSort_perm l _
theorem sortZ_eq {l m : List Int} (hl : l.Pairwise (· ≤ ·)) (hp : l.Perm m) : sortZ m = l := asc_eq (sortZ_asc m) hl ((sortZ_perm m).trans hp.symm)
/-- Where one goes in: all from k on are greater, the one before k is not. -/
structure InsAt {α : Type} (f : α → Int) (l : List α) (n : Int) (k : Nat) : Prop where
  le : k ≤ l.length
  after : ∀ j x, k ≤ j → l[j]? = some x → n < f x
  before : k = 0 ∨ ∃ x, l[k - 1]? = some x ∧ f x ≤ n
theorem ins_asc {α : Type} {f : α → Int} {l : List α} (h : l.Pairwise fun a b => f a ≤ f b) {y : α} {k : Nat} (i : InsAt f l (f y) k) : (l.take k ++ y :: l.drop k).Pairwise fun a b => f a ≤ f b := by
  rw [List.pairwise_append]
  have h0 := h
  rw [← List.take_append_drop k l, List.pairwise_append] at h0
  refine ⟨h0.1, List.Pairwise.cons (fun b hb => ?_) h0.2.1, fun a ha b hb => ?_⟩
  · obtain ⟨j, hj⟩ := List.mem_iff_getElem?.1 hb
    rw [List.getElem?_drop] at hj
    have := i.after (k + j) b (Nat.le_add_right _ _) hj
    omega
  · rcases List.mem_cons.1 hb with rfl | hb
    · rcases i.before with e | ⟨x, hx, hle⟩
      · subst e
        simp at ha
      · obtain ⟨j, hj⟩ := List.mem_iff_getElem?.1 ha
        have hjk : j < k := by
          have := (List.getElem?_eq_some_iff.1 hj).1
          rw [List.length_take] at this
          omega
        rw [List.getElem?_take_of_lt hjk] at hj
        by_cases e : j = k - 1
        · subst e
          rw [hj] at hx
          cases hx
          exact hle
        · have hlt : j < k - 1 := by omega
          obtain ⟨hj1, ej⟩ := List.getElem?_eq_some_iff.1 hj
          obtain ⟨hk1, ek⟩ := List.getElem?_eq_some_iff.1 hx
          have := List.pairwise_iff_getElem.1 h j (k - 1) hj1 hk1 hlt
          rw [ej, ek] at this
          omega
    · exact h0.2.2 a ha b hb
theorem ins_perm {α : Type} (l : List α) (y : α) (k : Nat) : (l.take k ++ y :: l.drop k).Perm (y :: l) := by
  have h1 : (l.take k ++ y :: l.drop k).Perm (y :: (l.take k ++ l.drop k)) := List.perm_middle
  rwa [List.take_append_drop] at h1
/-- add. -/
theorem ins_sortZ {l : List Int} (h : l.Pairwise (· ≤ ·)) {n : Int} {k : Nat} (i : InsAt id l n k) : l.take k ++ n :: l.drop k = sortZ (l ++ [n]) :=
  (sortZ_eq (ins_asc (f := id) h i) ((ins_perm l n k).trans (by have := List.perm_append_comm (l₁ := l) (l₂ := [n]); exact this.symm))).symm
/-- Claims by their numbers. -/
def ByNo (l : List Cl) : Prop := l.Pairwise fun a b => a.id ≤ b.id
theorem byNo_eq {l m : List Cl} (hl : ByNo l) (hm : ByNo m) (hn : (ids l).Nodup) (hp : l.Perm m) : l = m :=
  hp.eq_of_pairwise (fun a b ha hb h1 h2 => by
    have e : a.id = b.id := by omega
    have h3 := find_id hn ha
    have h4 := find_id hn (hp.symm.subset hb)
    rw [e, h4] at h3
    exact (Option.some.inj h3).symm) hl hm
/-- The reference's table r stands for t. -/
structure RT (r t : T) : Prop where
  by_ : ByNo r.hs
  perm : r.hs.Perm t.hs
  wait : r.ws = t.ws
theorem blk_perm {l m : List Cl} (h : l.Perm m) (c : Cl) : (blk l c).Perm (blk m c) := h.filter _
theorem blk_nil_perm {l m : List Cl} (h : l.Perm m) (c : Cl) : blk l c = [] ↔ blk m c = [] := by
  rw [blk_nil, blk_nil]
  exact ⟨fun k x hx => k x (h.symm.subset hx), fun k x hx => k x (h.subset hx)⟩
end P43
namespace P43
/-- One put in between. -/
theorem ins_pair {α : Type} {R : α → α → Prop} (tr : ∀ a b c, R a b → R b c → R a c) {l : List α} (h : l.Pairwise R) {y : α} {k : Nat} (ha : ∀ j x, k ≤ j → l[j]? = some x → R y x) (hb : k = 0 ∨ ∃ x, l[k - 1]? = some x ∧ R x y) : (l.take k ++ y :: l.drop k).Pairwise R := by
  rw [List.pairwise_append]
  have h0 := h
  rw [← List.take_append_drop k l, List.pairwise_append] at h0
  have hy : ∀ b ∈ l.drop k, R y b := fun b hb => by
    obtain ⟨j, hj⟩ := List.mem_iff_getElem?.1 hb
    rw [List.getElem?_drop] at hj
    exact ha (k + j) b (Nat.le_add_right _ _) hj
  refine ⟨h0.1, List.Pairwise.cons hy h0.2.1, fun a ha' b hb' => ?_⟩
  rcases List.mem_cons.1 hb' with rfl | hb'
  · rcases hb with e | ⟨x, hx, hle⟩
    · subst e
      simp at ha'
    · obtain ⟨j, hj⟩ := List.mem_iff_getElem?.1 ha'
      have hjk : j < k := by
        have := (List.getElem?_eq_some_iff.1 hj).1
        rw [List.length_take] at this
        omega
      rw [List.getElem?_take_of_lt hjk] at hj
      by_cases e : j = k - 1
      · subst e
        rw [hj] at hx
        cases hx
        exact hle
      · have hlt : j < k - 1 := by omega
        obtain ⟨hj1, ej⟩ := List.getElem?_eq_some_iff.1 hj
        obtain ⟨hk1, ek⟩ := List.getElem?_eq_some_iff.1 hx
        have := List.pairwise_iff_getElem.1 h j (k - 1) hj1 hk1 hlt
        rw [ej, ek] at this
        exact tr _ _ _ this hle
  · exact h0.2.2 a ha' b hb'
theorem nm_lt {a b : Nm} (h1 : ¬ b < a) (h2 : a ≠ b) : a < b := by
  by_cases h : a < b
  · exact h
  · have e : a = b := List.le_antisymm h1 h
    exact absurd e h2
theorem Srt.lt {l : List (Nm × Bool)} (h : Srt l) : l.Pairwise fun a b => a.1 < b.1 := by
  have h1 := h.up
  have h2 : l.Pairwise fun a b => a.1 ≠ b.1 := by
    have := h.once
    unfold names List.Nodup at this
    rwa [List.pairwise_map] at this
  refine (List.pairwise_and_iff.2 ⟨h1, h2⟩).imp fun {a b} h => ?_
  have := h.1
  simp only [leN, decide_eq_true_eq] at this
  exact nm_lt this h.2
theorem Srt.of_lt {l : List (Nm × Bool)} (h : l.Pairwise fun a b => a.1 < b.1) : Srt l := by
  refine ⟨h.imp fun {a b} h => ?_, ?_⟩
  · simp only [leN, decide_eq_true_eq]
    exact fun h2 => List.lt_irrefl a.1 (List.lt_trans h h2)
  · unfold names List.Nodup
    rw [List.pairwise_map]
    exact h.imp fun {a b} h e => by rw [e] at h; exact List.lt_irrefl b.1 h
theorem srt_eq {l m : List (Nm × Bool)} (hl : Srt l) (hm : Srt m) (hp : l.Perm m) : l = m :=
  hp.eq_of_pairwise (fun a b ha hb h1 h2 => by
    simp only [leN, decide_eq_true_eq] at h1 h2
    have e : a.1 = b.1 := List.le_antisymm h1 h2
    have h3 := val_of hl.once (s := a.1) (x := a.2) ha
    have h4 := val_of hl.once (s := b.1) (x := b.2) (hp.symm.subset hb)
    rw [e, h4] at h3
    exact Prod.ext e (Option.some.inj h3).symm) hl.up hm.up
/-- Where a name goes in. -/
structure NmAt (l : List (Nm × Bool)) (s : Nm) (k : Nat) : Prop where
  after : ∀ j x, k ≤ j → l[j]? = some x → s < x.1
  before : k = 0 ∨ ∃ x, l[k - 1]? = some x ∧ x.1 < s
theorem ins_sortN {l : List (Nm × Bool)} {q : Nm × Bool} {k : Nat} (hn : (names l).Nodup) (i : NmAt (sortN l) q.1 k) : (names (l ++ [q])).Nodup ∧ (sortN l).take k ++ q :: (sortN l).drop k = sortN (l ++ [q]) := by
  have h1 := Srt.of_lt (ins_pair (R := fun a b : Nm × Bool => a.1 < b.1) (fun a b c h k => List.lt_trans h k) (sortN_srt hn).lt (y := q) i.after i.before)
  have h2 : ((sortN l).take k ++ q :: (sortN l).drop k).Perm (l ++ [q]) := (ins_perm (sortN l) q k).trans (((sortN_perm l).cons q).trans (List.perm_append_comm (l₁ := [q]) (l₂ := l)))
  have h3 : (names (l ++ [q])).Nodup := (h2.map Prod.fst).nodup_iff.1 h1.once
  exact ⟨h3, srt_eq h1 (sortN_srt h3) (h2.trans (sortN_perm _).symm)⟩
theorem sortZ_congr {l m : List Int} (h : l.Perm m) : sortZ l = sortZ m := sortZ_eq (sortZ_asc m) ((sortZ_perm m).trans h.symm)
theorem sortZ_snoc (l : List Int) (n : Int) : sortZ (sortZ l ++ [n]) = sortZ (l ++ [n]) := sortZ_congr ((sortZ_perm l).append_right _)
theorem ByNo.asc {l : List Cl} (h : ByNo l) : (ids l).Pairwise (· ≤ ·) := by
  unfold ids
  rw [List.pairwise_map]
  exact h
theorem sortZ_asc_eq {l : List Int} (h : l.Pairwise (· ≤ ·)) : sortZ l = l := sortZ_eq h (List.Perm.refl l)
section
variable {r t : T} {o : Int} {s : Nm} {c : Cl}
theorem RT.inT (h : RT r t) : inT r o = inT t o := by
  unfold P43.inT
  rw [Bool.eq_iff_iff, decide_eq_true_eq, decide_eq_true_eq, ids_append, ids_append, List.mem_append, List.mem_append, h.wait]
  have := (h.perm.map (·.id)).mem_iff (a := o)
  unfold ids
  rw [this]
theorem RT.hold (h : RT r t) {k : Nat} (i : InsAt Cl.id r.hs c.id k) : RT ⟨r.hs.take k ++ c :: r.hs.drop k, r.ws⟩ ⟨t.hs ++ [c], t.ws⟩ :=
  ⟨ins_asc (f := Cl.id) h.by_ i, (ins_perm r.hs c k).trans ((h.perm.cons c).trans (List.perm_append_comm (l₁ := [c]) (l₂ := t.hs))), h.wait⟩
theorem RT.drop (h : RT r t) (o : Int) : RT ⟨P43.drop r.hs o, P43.drop r.ws o⟩ ⟨P43.drop t.hs o, P43.drop t.ws o⟩ :=
  ⟨List.Pairwise.sublist (drop_sub _ _) h.by_, h.perm.filter _, by rw [h.wait]⟩
theorem find_perm {l m : List Cl} (hp : l.Perm m) (hn : (ids l).Nodup) (o : Int) : (l.find? fun x => decide (x.id = o)) = m.find? fun x => decide (x.id = o) := by
  cases h : l.find? fun x => decide (x.id = o) with
  | none =>
    rw [List.find?_eq_none] at h
    exact (List.find?_eq_none.2 fun x hx => h x (hp.symm.subset hx)).symm
  | some c =>
    have h1 := List.find?_some h
    simp only [decide_eq_true_eq] at h1
    have h2 := find_id (((hp.map Cl.id).nodup_iff).1 hn) (hp.subset (List.mem_of_find?_eq_some h))
    rw [h1] at h2
    exact h2.symm
theorem RT.held (h : RT r t) (hn : (ids t.hs).Nodup) (o : Int) : heldP r o = heldP t o := by
  unfold heldP
  rw [find_perm h.perm (((h.perm.map Cl.id).nodup_iff).2 hn)]
theorem shareL_off {l : List Cl} (h : o ∉ ids l) (s : Nm) : shareL l o s = l := by
  unfold shareL
  conv => rhs; rw [← List.map_id l]
  refine List.map_congr_left fun x hx => ?_
  rw [if_neg fun e => h (by rw [← e]; exact mem_ids hx)]
  rfl
theorem share_perm {l : List Cl} (hn : (ids l).Nodup) (hc : c ∈ l) (s : Nm) : (P43.drop l c.id ++ [setF c s]).Perm (shareL l c.id s) := by
  obtain ⟨pre, post, rfl⟩ := List.append_of_mem hc
  have h1 : c.id ∉ ids pre := fun e => by
    rw [ids_append, List.nodup_append] at hn
    exact hn.2.2 _ e c.id (by simp [ids]) rfl
  have h2 : c.id ∉ ids post := fun e => by
    rw [ids_append, List.nodup_append] at hn
    have := hn.2.1
    simp only [ids, List.map_cons, List.nodup_cons] at this
    exact this.1 e
  have e1 : shareL (pre ++ c :: post) c.id s = pre ++ setF c s :: post := by
    have h3 := shareL_off h1 s
    have h4 := shareL_off h2 s
    unfold shareL at h3 h4 ⊢
    rw [List.map_append, List.map_cons, h3, h4, if_pos rfl]
  have e2 : P43.drop (pre ++ c :: post) c.id = pre ++ post := by
    have h3 := drop_none h1
    have h4 := drop_none h2
    unfold P43.drop at h3 h4 ⊢
    rw [List.filter_append, List.filter_cons_of_neg (by simp), h3, h4]
  rw [e1, e2]
  have := List.perm_middle (a := setF c s) (l₁ := pre) (l₂ := post)
  exact (List.perm_append_comm (l₁ := pre ++ post) (l₂ := [setF c s])).trans this.symm
theorem RT.owners (h : RT r t) : sortZ (ids (r.hs ++ r.ws)) = sortZ (ids (t.hs ++ t.ws)) := by
  rw [h.wait]
  exact sortZ_congr ((h.perm.append_right _).map _)
theorem RT.blocks (h : RT r t) (o : Int) : blocksP r o = blocksP t o := by
  unfold blocksP
  rw [h.wait]
  cases cutAt t.ws o with
  | none => rfl
  | some p => exact sortZ_congr (((blk_perm h.perm p.2).append_right _).map _)
/-- The holders of a name, as the reference finds them. -/
def holdsR (l : List Cl) (s : Nm) : List Int := l.flatMap fun x => (x.ns.filter fun p => decide (p.1 = s)).map fun _ => x.id
def aloneR (l : List Cl) (s : Nm) : Bool := l.any fun x => x.ns.any fun p => decide (p.1 = s) && p.2
theorem one_name : ∀ {ns : List (Nm × Bool)} (_ : (names ns).Nodup) (s : Nm), ns.filter (fun p => decide (p.1 = s)) = match val ns s with
    | none => []
    | some x => [(s, x)]
  | [], _, s => rfl
  | q :: ns, hn, s => by
    have hn2 := hn
    simp only [names, List.map_cons, List.nodup_cons] at hn2
    have ih := one_name (ns := ns) hn2.2 s
    unfold val at ih ⊢
    by_cases h : q.1 = s
    · subst h
      have h0 : ns.filter (fun p => decide (p.1 = q.1)) = [] := by
        rw [List.filter_eq_nil_iff]
        intro p hp
        simp only [decide_eq_true_eq]
        intro e
        exact hn2.1 (List.mem_map.2 ⟨p, hp, e⟩)
      rw [List.filter_cons_of_pos (by simp), List.find?_cons_of_pos (by simp), h0]
      rfl
    · rw [List.filter_cons_of_neg (by simpa using h), List.find?_cons_of_neg (by simpa using h)]
      exact ih
theorem holdsR_eq : ∀ {l : List Cl} (_ : ∀ x ∈ l, (names x.ns).Nodup) (s : Nm), holdsR l s = ids (l.filter fun c => (val c.ns s).isSome)
  | [], _, s => rfl
  | x :: l, h, s => by
    have ih := holdsR_eq (l := l) (fun y hy => h y (List.mem_cons_of_mem _ hy)) s
    unfold holdsR at ih ⊢
    rw [List.flatMap_cons, ih, one_name (h x (List.mem_cons_self ..)) s]
    cases hv : val x.ns s with
    | none => rw [List.filter_cons_of_neg (by simp [hv])]; rfl
    | some v => rw [List.filter_cons_of_pos (by simp [hv])]; rfl
theorem aloneR_eq {l : List Cl} (h : ∀ x ∈ l, (names x.ns).Nodup) (s : Nm) : aloneR l s = l.any fun c => (val c.ns s).getD false := by
  unfold aloneR
  rw [Bool.eq_iff_iff, List.any_eq_true, List.any_eq_true]
  constructor
  · rintro ⟨x, hx, h1⟩
    refine ⟨x, hx, ?_⟩
    obtain ⟨p, hp, h2⟩ := List.any_eq_true.1 h1
    simp only [Bool.and_eq_true, decide_eq_true_eq] at h2
    have := val_of (h x hx) (s := p.1) (x := p.2) hp
    rw [h2.1] at this
    rw [this]
    exact h2.2
  · rintro ⟨x, hx, h1⟩
    refine ⟨x, hx, ?_⟩
    cases hv : val x.ns s with
    | none => rw [hv] at h1; cases h1
    | some b =>
      rw [hv] at h1
      simp only [Option.getD_some] at h1
      subst h1
      exact List.any_eq_true.2 ⟨_, val_mem hv, by simp⟩
theorem RT.holders (h : RT r t) (hg : ∀ x ∈ t.hs, (names x.ns).Nodup) (s : Nm) : holdsR r.hs s = (holdersP t s).1 ∧ aloneR r.hs s = (holdersP t s).2 := by
  have hg' : ∀ x ∈ r.hs, (names x.ns).Nodup := fun x hx => hg x (h.perm.subset hx)
  constructor
  · rw [holdsR_eq hg']
    unfold holdersP
    refine (sortZ_eq ?_ ((h.perm.filter _).map _).symm.symm).symm
    exact ByNo.asc (List.Pairwise.sublist List.filter_sublist h.by_)
  · rw [aloneR_eq hg']
    unfold holdersP
    rw [Bool.eq_iff_iff, List.any_eq_true, List.any_eq_true]
    exact ⟨fun ⟨x, hx, h1⟩ => ⟨x, h.perm.subset hx, h1⟩, fun ⟨x, hx, h1⟩ => ⟨x, h.perm.symm.subset hx, h1⟩⟩
/-- The reference looks at the waiting: between two rounds. -/
structure LookR (t : T) (hR : List Cl) (k : Nat) (st : List Cl) (out : List Int) : Prop where
  ex : ∃ h, lookGo h st (t.ws.drop k) out = look t ∧ hR.Perm h
  by_ : ByNo hR
theorem LookR.start {t r : T} (h : RT r t) : LookR t r.hs 0 [] [] := ⟨⟨t.hs, rfl, h.perm⟩, h.by_⟩
theorem blk_nil_app {a b : List Cl} {c : Cl} : blk (a ++ b) c = [] ↔ blk a c = [] ∧ blk b c = [] := by rw [blk_app, List.append_eq_nil_iff]
theorem drop_at {α : Type} {l : List α} {k : Nat} {x : α} (h : l[k]? = some x) : l.drop k = x :: l.drop (k + 1) := by
  obtain ⟨hk, rfl⟩ := List.getElem?_eq_some_iff.1 h
  exact List.drop_eq_getElem_cons hk
theorem LookR.give {t : T} {hR st : List Cl} {k j : Nat} {out : List Int} {x : Cl} (l : LookR t hR k st out) (hx : t.ws[k]? = some x) (h1 : blk hR x = []) (h2 : blk st x = []) (i : InsAt Cl.id hR x.id j) : LookR t (hR.take j ++ x :: hR.drop j) (k + 1) st (out ++ [x.id]) := by
  obtain ⟨⟨h, e, hp⟩, hb⟩ := l
  refine ⟨⟨h ++ [x], ?_, (ins_perm hR x j).trans ((hp.cons x).trans (List.perm_append_comm (l₁ := [x]) (l₂ := h)))⟩, ins_asc (f := Cl.id) hb i⟩
  rw [drop_at hx, lookGo, if_pos (blk_nil_app.2 ⟨(blk_nil_perm hp x).1 h1, h2⟩)] at e
  exact e
theorem LookR.wait {t : T} {hR st : List Cl} {k : Nat} {out : List Int} {x : Cl} (l : LookR t hR k st out) (hx : t.ws[k]? = some x) (h1 : ¬ (blk hR x = [] ∧ blk st x = [])) : LookR t hR (k + 1) (st ++ [x]) out := by
  obtain ⟨⟨h, e, hp⟩, hb⟩ := l
  refine ⟨⟨h, ?_, hp⟩, hb⟩
  rw [drop_at hx, lookGo, if_neg (fun hn => h1 ⟨(blk_nil_perm hp x).2 (blk_nil_app.1 hn).1, (blk_nil_app.1 hn).2⟩)] at e
  exact e
theorem LookR.done {t : T} {hR st : List Cl} {k : Nat} {out : List Int} (l : LookR t hR k st out) (hk : t.ws.length ≤ k) : RT ⟨hR, st⟩ (look t).1 ∧ out = (look t).2 := by
  obtain ⟨⟨h, e, hp⟩, hb⟩ := l
  rw [List.drop_eq_nil_of_le hk, lookGo] at e
  rw [← e]
  exact ⟨⟨hb, hp, rfl⟩, rfl⟩
theorem LookR.len {t : T} {hR st : List Cl} {k : Nat} {out : List Int} (l : LookR t hR k st out) : hR.length + st.length + (t.ws.length - k) = t.hs.length + t.ws.length := by
  obtain ⟨⟨h, e, hp⟩, _⟩ := l
  obtain ⟨g, r', h1, _, _, h4⟩ := lookGo_parts (t.ws.drop k) h st out
  obtain ⟨g2, r2, h5, _, _, h6⟩ := lookGo_parts t.ws t.hs [] []
  unfold look at e
  rw [h1, h5] at e
  injection e with e1 e2
  injection e1 with e3 e4
  have a1 := congrArg List.length e3
  have a2 := congrArg List.length e4
  have a3 := h4.length_eq
  have a4 := h6.length_eq
  have a5 := hp.length_eq
  simp at a1 a2 a3 a4
  omega
end
/-- The parts between full stops. -/
def partsP : Nm → List Nm
  | [] => [[]]
  | c :: r => if c = 46 then [] :: partsP r else (c :: (partsP r).headD []) :: (partsP r).tail
theorem partsP_ne : ∀ (l : Nm), partsP l ≠ []
  | [] => by simp [partsP]
  | c :: r => by unfold partsP; split <;> simp
theorem partsP_snoc : ∀ (l : Nm) (c : UInt8), partsP (l ++ [c]) = if c = 46 then partsP l ++ [[]] else (partsP l).dropLast ++ [(partsP l).getLastD [] ++ [c]]
  | [], c => by
    by_cases h : c = 46
    · subst h; rfl
    · simp [partsP, h]
  | b :: r, c => by
    have ih := partsP_snoc r c
    rw [List.cons_append, partsP, ih]
    conv => rhs; rw [partsP]
    obtain ⟨p, ps, hp⟩ := List.exists_cons_of_ne_nil (partsP_ne r)
    rw [hp]
    by_cases hb : b = 46 <;> by_cases hc : c = 46 <;> simp [hb, hc]
    · cases ps with
      | nil => simp
      | cons q qs => simp
end P43
