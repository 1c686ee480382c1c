/- A region that draws its order, whose first operations are quiet (they read, or call what only makes memory) and whose last ones wait for all of them: one walk in the text's order serves every order; plain theorems, no function of the program in sight. -/
import Derived.Test.YtabpgfcmfflceaaDoorFree
import Derived.Deep.QuietTactic
import Derived.Lib.QuietBelow
namespace Go.Proofs.YtabpgfcmfflceaaDoor
open Go.RowKit Go.Sort

/-- No operation of the first N looks at what another one of them writes, but where it waits for it. -/
def lookB (ops : Array Oper) (N : Nat) : Bool := (List.range N).all fun i => (List.range N).all fun j => match ops[i]?, ops[j]? with
  | some o, some p => waits o j || (match p.dst with | some d => !(o.looksAt ops).contains d | none => true)
  | _, _ => true

section
variable {P : Program} {ops : Array Oper} {C : World → Prop}
theorem putAll_append (l m : List Oper) : ∀ (a : Act) (u : Nat → Value) (k : Nat), putAll a (l ++ m) u k = putAll (putAll a l u k) m u (k + l.length) := by
  induction l with
  | nil => intro a u k; simp [putAll]
  | cons o l ih =>
    intro a u k
    rw [List.cons_append, putAll, putAll, ih, List.length_cons, show k + 1 + l.length = k + (l.length + 1) from by omega]
theorem unlooked {o : Oper} (hs : ∀ cs b, o.op ≠ .select cs b) (u : Nat → Value) : ∀ (l : List Oper) (a : Act) (k : Nat), (∀ p ∈ l, ∀ d, p.dst = some d → d ∉ o.looksAt ops) →
    execOp (putAll a l u k).eval o = execOp a.eval o ∧ Region.wanted o (yielded ops (putAll a l u k).tmps) = Region.wanted o (yielded ops a.tmps)
  | [], _, _, _ => ⟨rfl, rfl⟩
  | p :: l, a, k, h => by
    obtain ⟨h1, h2⟩ := unlooked hs u l (a.put p.dst (u k)) (k + 1) (fun q hq => h q (by simp [hq]))
    rw [putAll]
    exact ⟨h1.trans (execOp_put o hs a p.dst (u k) (h p (by simp))), h2.trans (wanted_put o a p.dst (u k) (h p (by simp)))⟩
theorem lookB_at {N : Nat} (h : lookB ops N = true) {i j : Nat} (hi : i < N) (hj : j < N) {o p : Oper} (ho : ops[i]? = some o) (hp : ops[j]? = some p) : waits o j = true ∨ ∀ d, p.dst = some d → d ∉ o.looksAt ops := by
  unfold lookB at h
  have := List.all_eq_true.1 (List.all_eq_true.1 h i (by simpa using hi)) j (by simpa using hj)
  rw [ho, hp] at this
  simp only [Bool.or_eq_true] at this
  rcases this with h1 | h1
  · exact .inl h1
  · refine .inr fun d hd => ?_
    rw [hd] at h1
    simpa using h1

theorem quiet_cases {Q : Act → Prop} {o : Oper} {rest : List Oper} {a : Act} (h : wpQuiet P ops C Q (o :: rest) a) : ∃ v, YieldsIn P ops C o v a ∧ wpQuiet P ops C Q rest (a.put o.dst v) := by
  unfold wpQuiet at h
  by_cases hw : Region.wanted o (yielded ops a.tmps) = true
  · rw [if_pos hw] at h
    obtain ⟨v, h1, h2⟩ := h
    exact ⟨v, .inl ⟨hw, h1⟩, h2⟩
  · rw [if_neg hw] at h
    exact ⟨undef, .inr ⟨by simpa using hw, rfl⟩, h⟩
theorem quiet_vals {Q : Act → Prop} : ∀ (l : List Oper) (a : Act) (k : Nat), wpQuiet P ops C Q l a →
    ∃ V : Nat → Value, (∀ i o, l[i]? = some o → YieldsIn P ops C o (V (k + i)) (putAll a (l.take i) V k)) ∧ Q (putAll a l V k)
  | [], a, k, h => ⟨fun _ => undef, fun i o hi => by simp at hi, h⟩
  | o :: l, a, k, h => by
    obtain ⟨v, hy, hr⟩ := quiet_cases h
    obtain ⟨V, h1, h2⟩ := quiet_vals l (a.put o.dst v) (k + 1) hr
    have ek : upd V k v k = v := by simp [upd]
    have eo : ∀ (m : List Oper) (b : Act), putAll b m (upd V k v) (k + 1) = putAll b m V (k + 1) := fun m b => putAll_ext m b _ _ (k + 1) (fun j hj _ => by unfold upd; rw [if_neg (by omega)])
    refine ⟨upd V k v, fun i p hi => ?_, ?_⟩
    · cases i with
      | zero =>
        simp only [List.getElem?_cons_zero, Option.some.injEq] at hi
        subst hi
        rw [List.take_zero]
        show YieldsIn P ops C o (upd V k v k) a
        rw [ek]
        exact hy
      | succ i =>
        have := h1 i p (by simpa using hi)
        rw [List.take_succ_cons, putAll, ek, eo, show k + (i + 1) = k + 1 + i from by omega]
        have e2 : upd V k v (k + 1 + i) = V (k + 1 + i) := by unfold upd; rw [if_neg (by omega)]
        rw [e2]
        exact this
    · rw [putAll, ek, eo]
      exact h2

/-- The rule. -/
theorem wp_region_quiet_tail {id : Nat} {Q : Exit → Act → World → Prop} {a : Act} {w : World} {l : List Oper} (f N : Nat) (hm : P.follows .mixedOrders = true)
    (hB : (backB 0 l.toArray.toList && tailB l.toArray f N && decide (N < l.toArray.size) && apartB (l.toArray.toList.take N)) = true) (hL : (lookB l.toArray N && Region.noSelect l.toArray) = true) (hC : C { w with drawn := w.drawn + 1 })
    (h : wpQuiet P l.toArray C (fun a' => ∀ w', C w' → wpList P l.toArray Q (l.drop N) a' w') (l.take N) a) : (Code.region id l.toArray true).wp P Q a w := by
  simp only [Bool.and_eq_true] at hL
  have hap : apartB (l.take N) = true := by simp only [Bool.and_eq_true] at hB; exact hB.2
  have hbk : backB 0 l = true := by simp only [Bool.and_eq_true] at hB; exact hB.1.1.1
  obtain ⟨V, hV, hQ⟩ := quiet_vals _ _ 0 h
  have hop : ∀ i o, (l.take N)[i]? = some o → ∀ u : Nat → Value, (∀ j, waits o j = true → u j = V j) → YieldsIn P l.toArray C o (V i) (putAll a (l.take N) u 0) := by
    intro i o ho u hu
    have hiN : i < N := by have := (List.getElem?_eq_some_iff.1 ho).1; simp at this; omega
    have hol : l[i]? = some o := by rw [List.getElem?_take_of_lt hiN] at ho; exact ho
    have hoa : l.toArray[i]? = some o := by simpa using hol
    have hs : ∀ cs b, o.op ≠ .select cs b := fun cs b => Region.noSelect_spec hL.2 i o cs b hoa
    have hwb : ∀ j, waits o j = true → j < i := by
      intro j hj
      unfold waits at hj
      obtain ⟨e, he, hej⟩ := List.any_eq_true.1 hj
      simp only [Bool.and_eq_true, beq_iff_eq] at hej
      have := backB_at l 0 hbk i o hol e (by simpa using he)
      omega
    -- from the walk's frame to the frame where every slot holds the walk's value
    have s1 : YieldsIn P l.toArray C o (V i) (putAll a (l.take N) V 0) := by
      have h0 := hV i o ho
      rw [Nat.zero_add] at h0
      have hsplit : l.take N = (l.take N).take i ++ (l.take N).drop i := (List.take_append_drop _ _).symm
      rw [hsplit, putAll_append]
      have := unlooked (ops := l.toArray) hs V ((l.take N).drop i) (putAll a ((l.take N).take i) V 0) (0 + ((l.take N).take i).length) (fun p hp => by
        obtain ⟨j, hj⟩ := List.mem_iff_getElem?.1 hp
        rw [List.getElem?_drop] at hj
        have hjN : i + j < N := by have := (List.getElem?_eq_some_iff.1 hj).1; simp at this; omega
        rcases lookB_at hL.1 hiN hjN hoa (by rw [List.getElem?_take_of_lt hjN] at hj; simpa using hj) with h1 | h1
        · have := hwb _ h1
          omega
        · exact h1)
      exact h0.of_same this.1 this.2
    -- and on, one slot at a time
    have key : ∀ m, m ≤ N → YieldsIn P l.toArray C o (V i) (putAll a (l.take N) (fun j => if j < m then u j else V j) 0) := by
      intro m
      induction m with
      | zero =>
        intro _
        have e0 : (fun j => if j < 0 then u j else V j) = V := by funext j; rw [if_neg (by omega)]
        rw [e0]
        exact s1
      | succ m ih =>
        intro hmN
        have h0 := ih (by omega)
        by_cases hml : m < l.length
        · have hp : l[m]? = some l[m] := List.getElem?_eq_getElem hml
          rcases lookB_at hL.1 hiN (show m < N by omega) hoa (show l.toArray[m]? = some l[m] by simp) with h1 | h1
          · have e0 : (fun j => if j < m + 1 then u j else V j) = (fun j => if j < m then u j else V j) := by
              funext j
              by_cases hjm : j = m
              · subst hjm; rw [if_pos (by omega), if_neg (by omega), hu j h1]
              · by_cases hlt : j < m
                · rw [if_pos (by omega), if_pos hlt]
                · rw [if_neg (by omega), if_neg hlt]
            rw [e0]
            exact h0
          · have e0 : (fun j => if j < m + 1 then u j else V j) = upd (fun j => if j < m then u j else V j) (0 + m) (u m) := by
              funext j
              unfold upd
              by_cases hjm : j = m
              · subst hjm; rw [if_pos (by omega), if_pos (by omega)]
              · rw [if_neg (show ¬ j = 0 + m by omega)]
                show _ = if j < m then u j else V j
                by_cases hlt : j < m
                · rw [if_pos (by omega), if_pos hlt]
                · rw [if_neg (by omega), if_neg hlt]
            rw [e0, ← putAll_upd (l.take N) a _ 0 m l[m] (u m) hap (by rw [List.getElem?_take_of_lt (by omega)]; exact hp)]
            exact h0.of_same (execOp_put o hs _ _ _ h1) (wanted_put o _ _ _ h1)
        · have e0 : putAll a (l.take N) (fun j => if j < m + 1 then u j else V j) 0 = putAll a (l.take N) (fun j => if j < m then u j else V j) 0 := by
            refine putAll_ext _ _ _ _ _ (fun j _ hj => ?_)
            simp at hj
            rw [if_pos (by omega), if_pos (by omega)]
          rw [e0]
          exact h0
    have e0 : putAll a (l.take N) (fun j => if j < N then u j else V j) 0 = putAll a (l.take N) u 0 := by
      refine putAll_ext _ _ _ _ _ (fun j _ hj => ?_)
      simp at hj
      rw [if_pos (by omega)]
    have := key N (Nat.le_refl _)
    rw [e0] at this
    exact this
  have hall : ∀ (m : List Oper) (k : Nat) (p : Nat → Oper → Prop), (∀ i o, m[i]? = some o → p (k + i) o) → allOps p k m := by
    intro m
    induction m with
    | nil => intros; trivial
    | cons o m ih =>
      intro k p hp
      exact ⟨hp 0 o (by simp), ih (k + 1) p (fun i o' ho' => by have := hp (i + 1) o' (by simpa using ho'); rw [show k + (i + 1) = k + 1 + i from by omega] at this; exact this)⟩
  refine wp_region_drawn (P := P) (ops := l.toArray) (Q := Q) (id := id) (w := w) f N hm hB (fun _ w' => C w') C (fun i v _ => v = V i) (fun _ _ _ h => h) (fun _ _ _ _ h _ => h) hC ?_ ?_
  · refine hall _ 0 _ (fun i o ho => ?_)
    intro u w1 hC1 hd K hK
    rw [Nat.zero_add] at hK
    have hy := hop i o ho u hd
    show if Region.wanted o (yielded l.toArray (putAll a (l.take N) u 0).tmps) then _ else _
    rcases hy with ⟨hw, hq⟩ | ⟨hw, hv⟩
    · rw [if_pos hw]
      exact Oper.wp_of_quiet (C := C) (K := fun a' => a' = (putAll a (l.take N) u 0).put o.dst (V i)) hC1 (fun a' w' hC' ha' => by subst ha'; exact hK _ _ hC' rfl) ⟨V i, hq, rfl⟩
    · rw [if_neg (by rw [hw]; simp), ← hv]
      exact hK _ _ hC1 rfl
  · intro u w' hC' hf
    have e0 : putAll a (l.take N) u 0 = putAll a (l.take N) V 0 := putAll_ext _ _ _ _ _ (fun j _ hj => hf j (by simp at hj; omega))
    show wpList P l.toArray Q (l.drop N) (putAll a (l.take N) u 0) w'
    rw [e0]
    exact hQ w' hC'
end
theorem wp_region_below_tail {P : Program} {id : Nat} {Q : Exit → Act → World → Prop} {a : Act} {w : World} {l : List Oper} (f N : Nat) (hm : P.follows .mixedOrders = true)
    (hB : (backB 0 l.toArray.toList && tailB l.toArray f N && decide (N < l.toArray.size) && apartB (l.toArray.toList.take N)) = true) (hL : (lookB l.toArray N && Region.noSelect l.toArray) = true)
    (h : wpQuiet P l.toArray (fun w' => ∃ p : Regrown, w' = grow (redrawn w p.d) p.os) (fun a' => ∀ w', (∃ p : Regrown, w' = grow (redrawn w p.d) p.os) → wpList P l.toArray Q (l.drop N) a' w') (l.take N) a) : (Code.region id l.toArray true).wp P Q a w :=
  wp_region_quiet_tail (C := fun w' => ∃ p : Regrown, w' = grow (redrawn w p.d) p.os) f N hm hB hL ⟨⟨w.drawn + 1, #[]⟩, by rw [grow_empty]; rfl⟩ h
end Go.Proofs.YtabpgfcmfflceaaDoor
