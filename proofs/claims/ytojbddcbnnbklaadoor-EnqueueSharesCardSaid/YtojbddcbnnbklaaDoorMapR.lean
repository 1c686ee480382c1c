/- 'for k, v := range m' over a map from numbers to numbers of the call's own; a store into it as an equation. Plain theorems. -/
import Derived.Test.YtojbddcbnnbklaaDoorMapV
namespace Go.Proofs.YtojbddcbnnbklaaDoor
open Go.RowKit Go.Maps

/-- The numbers of L, each with its number. -/
def gM (g : Int → Int) (L : List Int) : Lit → Option Value := fun k => match k with
  | .int .i64 x => if x ∈ L then some (.int .i64 (g x)) else none
  | _ => none
theorem gM_int {g : Int → Int} {L : List Int} {x : Int} (h : x ∈ L) : gM g L (.int .i64 x) = some (.int .i64 (g x)) := by
  show (if x ∈ L then _ else _) = _
  rw [if_pos h]
theorem gM_some {g : Int → Int} {L : List Int} {k : Lit} {v : Value} (h : gM g L k = some v) : ∃ x, k = .int .i64 x ∧ x ∈ L ∧ v = .int .i64 (g x) := by
  unfold gM at h
  split at h
  · rename_i x
    split at h
    · rename_i hx
      exact ⟨x, rfl, hx, (Option.some.inj h).symm⟩
    · cases h
  · cases h
theorem gM_nil (g : Int → Int) : (fun _ => none : Lit → Option Value) = gM g [] := by
  funext k
  cases h : gM g [] k with
  | none => rfl
  | some v =>
    obtain ⟨x, _, hx, _⟩ := gM_some h
    cases hx
theorem gM_put (g : Int → Int) (L : List Int) (a : Int) : putM (gM g L) (.int .i64 a) (.int .i64 (g a)) = gM g (L ++ [a]) := by
  funext k
  unfold putM
  by_cases e : k = .int .i64 a
  · subst e
    rw [if_pos (by simp [Lit.sameKey]), gM_int (by simp)]
  · rw [if_neg (by rw [sameKey_ne e]; simp)]
    unfold gM
    split
    · rename_i x
      have hx : x ≠ a := fun h => e (by rw [h])
      simp [hx]
    · rfl
section
variable {P : Program} {w w' : World} {kt : TypeId} {b n : Nat} {M : Lit → Option Value}
/-- 'm[k] = v', as an equation. -/
theorem run_mapV_put {et t : TypeId} (K : Keyed P kt) (ht : P.underlying t = some (.map kt et)) (hs : MapV w P kt b n M) (hn : n < maxLen) {key : Value} (val : Value) {kl : Lit} (hkey : keyOf P kt key = some kl) :
    ∃ w', (Instr.mapUpdate t (.map (some b)) key val).run P w = .ok () w' ∧ MapV w' P kt b (n + 1) (putM M kl val) ∧ w.grownBy w' (some b) := by
  obtain ⟨D, h1, h2, h3⟩ := hs.own
  obtain ⟨w', hrun, hown, hgr⟩ := h1.update (t := t) K ht hn hkey (val := val) (d := .held val) (ps := []) rfl
  have hkl := K.key hkey
  refine ⟨w', hrun, ⟨D.put kl (.held val), hown, fun y => ?_, fun y u hy z => ?_⟩, hgr⟩
  · unfold putM
    by_cases hyk : y = kl
    · subst hyk
      rw [has_put_same h1.isMap hkl, if_pos (WideAt.sameKey_self hkl)]
      rfl
    · rw [has_put_other hyk, h2, if_neg (by rw [sameKey_ne hyk]; simp)]
  · unfold putM at hy
    by_cases hyk : y = kl
    · subst hyk
      rw [if_pos (WideAt.sameKey_self hkl)] at hy
      injection hy with hy
      rw [atKey_put_same h1.isMap hkl, hy]
    · rw [if_neg (by rw [sameKey_ne hyk]; simp)] at hy
      rw [atKey_put_other hyk]
      exact h3 y u hy z
/-- 'for k, v := range m' under way: some keys are still to come, cnt many. -/
structure MapR (w : World) (P : Program) (kt : TypeId) (b r n : Nat) (M : Lit → Option Value) (cnt : Nat) : Prop where
  own : ∃ (D : DataW Value) (lf : Lit → Bool), w.ranges P kt selfElem b r n D lf cnt ∧ (∀ k, has D k = (M k).isSome) ∧ (∀ k v, M k = some v → ∀ z, D.atKey k z = .held v) ∧ ∀ k, lf k = true → (M k).isSome = true
theorem MapR.map {r cnt : Nat} (h : MapR w P kt b r n M cnt) : MapV w P kt b n M := by
  obtain ⟨D, lf, h1, h2, h3, _⟩ := h.own
  exact ⟨D, h1.owns, h2, h3⟩
theorem MapR.kept {r cnt : Nat} {row : Option Nat} (h : MapR w P kt b r n M cnt) (hg : w.grownBy w' row) (hb : some b ≠ row) (hr : some r ≠ row) : MapR w' P kt b r n M cnt := by
  obtain ⟨D, lf, h1, h2⟩ := h.own
  exact ⟨D, lf, h1.kept hg hb hr, h2⟩
theorem MapR.lt {r cnt : Nat} (h : MapR w P kt b r n M cnt) : b < w.heap.size ∧ r < w.heap.size ∧ r ≠ b := by
  obtain ⟨D, lf, h1, _⟩ := h.own
  exact ⟨h1.owns.lt, h1.lt, h1.ne⟩
theorem MapR.below {r cnt : Nat} (h : MapR w P kt b r n M cnt) (hb : Below w.heap.size w w') : MapR w' P kt b r n M cnt :=
  h.kept (row := none) ⟨hb.os, hb.tape, hb.output, hb.size, fun k hk _ => hb.block k hk⟩ (by simp) (by simp)
theorem MapR.count {r cnt : Nat} (h : MapR w P kt b r n M cnt) : w.rangeLeft b r = cnt := by
  obtain ⟨D, lf, h1, _⟩ := h.own
  exact h1.left_eq
variable {et : TypeId} {ops : Array Oper} {rest : List Oper} {o : Oper} {a : Act} {Q : Exit → Act → World → Prop}
/-- 'range m'. -/
theorem wpList_mapV_range (hg : o.guard = none) (m : Operand) (t : TypeId) (hop : o.op = Op.range t m) (K : Keyed P kt)
    (ht : P.underlying t = some (.map kt et)) (hm : a.eval m = .map (some b)) (hs : MapV w P kt b n M)
    (hK : ∀ w' cnt, MapR w' P kt b w.heap.size n M cnt → w.grownBy w' none → w'.heap.size = w.heap.size + 1 → wpList P ops Q rest (a.put o.dst (.pointer (some ⟨w.heap.size, 0, none⟩))) w') : wpList P ops Q (o :: rest) a w := by
  obtain ⟨D, h1, h2, h3⟩ := hs.own
  exact wpList_range_own w hg m t hop kt et K ht selfElem b n D hm h1 (fun w' hr hgr hsz => hK w' _ ⟨D, _, hr, h2, h3, fun k hk => by rw [← h2]; exact hk⟩ hgr hsz)
/-- The next number, whichever it is. -/
theorem wpList_gM_next {r cnt : Nat} {g : Int → Int} {L : List Int} (hg : o.guard = none) (it : Operand) (hop : o.op = Op.next it false)
    (hk : P.underlying kt = some (.int .i64)) (hit : a.eval it = .pointer (some ⟨r, 0, none⟩)) (hs : MapR w P kt b r n (gM g L) cnt)
    (hDone : wpList P ops Q rest (a.put o.dst (.tuple #[.bool false])) w)
    (hMore : ∀ (x : Int) (w' : World) (cnt' : Nat), x ∈ L → MapR w' P kt b r n (gM g L) cnt' → cnt' < cnt → w.grownBy w' (some r) → w'.heap.size = w.heap.size → (Instr.entry (.pointer (some ⟨r, 0, none⟩))).run P w' = .ok (.tuple #[.int .i64 x, .int .i64 (g x)]) w' → wpList P ops Q rest (a.put o.dst (.tuple #[.bool true, .int .i64 x, .int .i64 (g x)])) w') : wpList P ops Q (o :: rest) a w := by
  obtain ⟨D, lf, h1, h2, h3, h5⟩ := hs.own
  refine wpList_next_ranges w hg it hop kt (int_keyed hk) selfElem (Value.int .i64) (fun v : Value => v) (fun key kl hkey => by obtain ⟨x, rfl, _⟩ := Maps.keyOf_int_inv hk hkey; exact ⟨x, rfl⟩) (fun v y _ => ⟨v, rfl⟩) b r n D lf cnt hit h1 (fun _ _ => hDone) ?_
  intro x c kl y w' cnt' hkey hlk hv hat hrg hlt hgr hsz hen
  obtain ⟨x', ex, rfl, hwx⟩ := Maps.keyOf_int_inv hk hkey
  cases ex
  obtain ⟨v, hMv⟩ := Option.isSome_iff_exists.1 (h5 _ hlk)
  obtain ⟨x2, e2, hx2, e3⟩ := gM_some hMv
  injection e2 with _ e2
  subst e2
  have e := hat (.held c)
  rw [h3 _ _ hMv] at e
  unfold selfElem at hv
  have hy : y = (.held c, []) := (Option.some.inj hv).symm
  rw [hy] at e
  injection e with e
  subst e
  subst e3
  exact hMore x w' cnt' hx2 ⟨D, _, hrg, h2, h3, fun z hz => h5 z (by simp at hz; exact hz.1)⟩ hlt hgr hsz hen
end
end Go.Proofs.YtojbddcbnnbklaaDoor
