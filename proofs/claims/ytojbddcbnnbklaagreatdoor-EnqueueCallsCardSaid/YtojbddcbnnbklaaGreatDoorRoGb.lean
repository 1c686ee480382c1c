/- A region that draws its order: what an operation's value is known to be may end with another operation (an append that grows it in place); plain theorems, no function of the program in sight. The reference's add and hold: one put in between. The reference's hold. The reference's blocked. Owners, the program's and the reference's. -/
import Derived.Test.YtojbddcbnnbklaaGreatDoorFree
import Derived.Test.YtojbddcbnnbklaaGreatDoorClMem
import Derived.Maps.AppendAt
import Derived.Test.YtojbddcbnnbklaaGreatDoorRoGa
import Derived.BigQuiet
import Derived.Test.YtojbddcbnnbklaaGreatDoorClHold
namespace Go.Proofs.YtojbddcbnnbklaaGreatDoor
open Go.RowKit

section
variable {P : Program} {ops : Array Oper} {Q : Exit → Act → World → Prop}
/-- What operation j left still holds when operation i comes. -/
def alive (ops : Array Oper) (kill : Nat → Option Nat) (i j : Nat) : Bool := match kill j with
  | none => true
  | some k => k == i || (match ops[k]? with | some o => waits o i | none => false)
/-- The rule, the last operations (from number N on) in the text's order. -/
theorem wp_region_kill_tail {id : Nat} {w : World} (f N : Nat) (hm : P.follows .mixedOrders = true) (hB : backB 0 ops.toList = true) (hT : tailB ops f N = true) (hN : N < ops.size) (kill : Nat → Option Nat) (R : Nat → World → World → Prop) (C : World → Prop) (F : (Nat → Value) → Act) (Fact : Nat → Value → World → Prop) (u0 : Nat → Value)
    (hCR : ∀ k w w', C w → R k w w' → C w') (hFR : ∀ k i v w w', i ≠ k → kill i ≠ some k → Fact i v w → R k w w' → Fact i v w') (hC : C { w with drawn := w.drawn + 1 })
    (hops : allOps (fun i o => (∀ u v, (F u).put o.dst v = F (upd u i v)) ∧ ∀ u w, C w → (∀ j, waits o j = true → alive ops kill i j = true → Fact j (u j) w) → ∀ K : Act → World → Prop, (∀ v w', R i w w' → Fact i v w' → K ((F u).put o.dst v) w') →
      if Region.wanted o (yielded ops (F u).tmps) then o.wp P (F u) w K Q else K ((F u).put o.dst undef) w) 0 (ops.toList.take N))
    (hQ : ∀ u w', C w' → (∀ i, i < N → kill i = none → Fact i (u i) w') → wpList P ops Q (ops.toList.drop N) (F u) w') : (Code.region id ops true).wp P Q (F u0) w := by
  have getD_eq : ∀ (listed : Array Bool) j b c, j < listed.size → listed.getD j b = listed.getD j c := fun listed j b c h => by simp [Array.getD, h]
  refine wp_region_any hm ?_
  have main : ∀ (fuel : Nat) (listed : Array Bool) (a : Act) (w : World), listed.toList.count false ≤ fuel → listed.size = ops.size → (∀ i o, ops[i]? = some o → listed.getD i false = true → ∀ j, waits o j = true → listed.getD j false = true) → (∀ j, N ≤ j → listed.getD j false = false) → C w →
      (∃ u, a = F u ∧ ∀ i, listed.getD i false = true → (∀ k, kill i = some k → listed.getD k false = false) → Fact i (u i) w) → wpAny P .any ops Q fuel listed a w := by
    intro fuel
    induction fuel with
    | zero =>
      intro listed a w hc hs _ hlo _ _
      exfalso
      have h0 := hlo N (Nat.le_refl _)
      have hlt : N < listed.size := by omega
      have : false ∈ listed.toList := by
        have h1 : listed[N] = false := by simpa [Array.getD, hlt] using h0
        rw [← h1]
        exact Array.mem_toList_iff.2 (Array.getElem_mem hlt)
      have := List.count_pos_iff.2 this
      omega
    | succ fuel ih =>
      intro listed a w hc hs hdc hlo hCw hex
      by_cases hall : ∀ j, j < N → listed.getD j false = true
      · obtain ⟨u, rfl, hf⟩ := hex
        refine wpAny_tail hB hT (ops.size - N) N (fuel + 1) listed (F u) w (by omega) (Nat.le_refl _) hs (fun j hj => ?_) ?_ (hQ u w hCw (fun i hi hn => hf i (hall i hi) (fun k hk => by rw [hn] at hk; cases hk)))
        · by_cases hjN : j < N
          · rw [hall j hjN]; simp [hjN]
          · rw [hlo j (by omega)]; simp [hjN]
        · have hcount : ops.size - N ≤ listed.toList.count false := by
            have h1 : listed.toList = listed.toList.take N ++ listed.toList.drop N := (List.take_append_drop _ _).symm
            have h2 : (listed.toList.drop N).count false = (listed.toList.drop N).length := by
              rw [List.count_eq_length]
              intro b hb
              obtain ⟨x, hx⟩ := List.mem_iff_getElem?.1 hb
              rw [List.getElem?_drop] at hx
              have hxl : N + x < listed.size := by simpa using (List.getElem?_eq_some_iff.1 hx).1
              have h3 := hlo (N + x) (by omega)
              have h4 : listed[N + x] = b := by
                have := (List.getElem?_eq_some_iff.1 hx).2
                simpa using this
              simp only [Array.getD, hxl, dif_pos] at h3
              rw [← h4]
              exact h3.symm
            rw [h1, List.count_append, h2]
            simp
            omega
          omega
      · have hrdy : ∀ i, i ∈ Region.ready .any ops listed → i < N := by
          intro i hi
          obtain ⟨h1, o, ho, hw⟩ := mem_ready.1 hi
          rcases Nat.lt_or_ge i N with h | h
          · exact h
          · exfalso
            apply hall
            intro j hj
            have hlt : i < ops.size := (Array.getElem?_eq_some_iff.1 ho).1
            have hr := List.all_eq_true.1 hT i (List.mem_range.2 hlt)
            simp only [Bool.or_eq_true, decide_eq_true_eq] at hr
            have hr2 := List.all_eq_true.1 (hr.resolve_left (by omega)) j (List.mem_range.2 (by omega))
            refine reach_listed hdc f i j o ho (fun k hk => ?_) hr2
            rw [waits_arr] at hk
            rw [Array.any_eq_true] at hk
            obtain ⟨y, hy, h2⟩ := hk
            simp only [Bool.and_eq_true, beq_iff_eq] at h2
            rw [← h2.1]
            exact hw _ (Array.getElem_mem hy) h2.2
        refine ⟨fun h0 => ?_, fun i hi => ?_⟩
        · exfalso
          have := all_listed hB h0 N hN
          rw [getD_eq listed N true false (by omega), hlo N (Nat.le_refl _)] at this
          cases this
        · have hiN := hrdy i hi
          obtain ⟨h1, o, ho, hw0⟩ := mem_ready.1 hi
          have hw : ∀ k, waits o k = true → listed.getD k false = true := fun k hk => by
            rw [waits_arr] at hk
            rw [Array.any_eq_true] at hk
            obtain ⟨y, hy, h2⟩ := hk
            simp only [Bool.and_eq_true, beq_iff_eq] at h2
            rw [← h2.1]
            exact hw0 _ (Array.getElem_mem hy) h2.2
          obtain ⟨u, rfl, hf⟩ := hex
          have hlt : i < ops.size := (Array.getElem?_eq_some_iff.1 ho).1
          have hti : (ops.toList.take N)[i]? = some o := by rw [List.getElem?_take_of_lt hiN]; simpa using ho
          have h := allOps_at (ops.toList.take N) 0 hops i o hti
          rw [Nat.zero_add] at h
          have hcnt : (listed.setIfInBounds i true).toList.count false ≤ fuel := by
            have hil : i < listed.size := by omega
            have h2 : (listed.setIfInBounds i true).toList = listed.toList.set i true := by simp
            rw [h2]
            have hlt' : i < listed.toList.length := by simpa using hil
            have h3 : listed.toList[i]'hlt' = false := by
              rw [getD_eq listed i true false hil] at h1
              simpa [Array.getD, hil] using h1
            rw [List.count_set hlt', h3]
            have : 0 < listed.toList.count false := List.count_pos_iff.2 (by rw [← h3]; exact List.getElem_mem _)
            simp only [beq_self_eq_true, if_true, Bool.true_eq_false, beq_iff_eq, if_false]
            omega
          have hK := h.2 u w hCw (fun j hj hkj => hf j (hw j hj) (fun k hk => by
            unfold alive at hkj
            rw [hk] at hkj
            simp only [Bool.or_eq_true, beq_iff_eq] at hkj
            rcases hkj with h0 | h0
            · subst h0
              rw [← getD_eq listed k true false (by omega)]
              exact h1
            · cases hok : ops[k]? with
              | none => rw [hok] at h0; cases h0
              | some ok =>
                rw [hok] at h0
                cases hlk : listed.getD k false with
                | false => rfl
                | true =>
                  have := hdc k ok hok hlk i h0
                  rw [← getD_eq listed i true false (by omega), h1] at this
                  cases this)) (wpAny P .any ops Q fuel (listed.setIfInBounds i true)) (fun v w' hR hv => by
            refine ih _ _ w' hcnt (by simpa using hs) ?_ ?_ (hCR _ _ _ hCw hR) ⟨upd u i v, h.1 u v, fun k hk hal => ?_⟩
            · intro x o' ho' hx j hj
              by_cases hxi : i = x
              · subst hxi
                rw [ho] at ho'
                cases ho'
                exact getD_set_true (hw j hj)
              · rw [getD_set_ne false hxi] at hx
                exact getD_set_true (hdc x o' ho' hx j hj)
            · intro j hj
              rw [getD_set_ne false (by omega)]
              exact hlo j hj
            · unfold upd
              by_cases hki : k = i
              · subst hki
                rw [if_pos rfl]
                exact hv
              · rw [if_neg hki]
                have hil : i < listed.size := by omega
                have hnk : kill k ≠ some i := fun e => by
                  have := hal i e
                  simp [Array.getD, hil] at this
                refine hFR _ _ _ _ _ hki hnk (hf k ?_ (fun m hm => ?_)) hR
                · rwa [getD_set_ne false (Ne.symm hki)] at hk
                · have := hal m hm
                  rwa [getD_set_ne false (fun e => hnk (by rw [hm, e]))] at this)
          unfold wpOp
          simp only [ho]
          split
          · rename_i hwt
            rw [if_pos hwt] at hK
            exact .inl hK
          · rename_i hwt
            rw [if_neg hwt] at hK
            exact hK
  refine main ops.size _ _ _ (by simp) (by simp) ?_ ?_ hC ⟨u0, rfl, ?_⟩
  · intro i o _ hi
    exfalso
    rcases Nat.lt_or_ge i ops.size with h | h
    · simp [Array.getD, h] at hi
    · simp [Array.getD, Nat.not_lt.2 h] at hi
  · intro j _
    rcases Nat.lt_or_ge j ops.size with h | h
    · simp [Array.getD, h]
    · simp [Array.getD, Nat.not_lt.2 h]
  · intro i hi _
    exfalso
    rcases Nat.lt_or_ge i ops.size with h | h
    · simp [Array.getD, h] at hi
    · simp [Array.getD, Nat.not_lt.2 h] at hi

/-- **A region that draws its order, from whatever frame**: the first N operations in whatever order, each shown once; the others as they stand in the text. -/
theorem wp_region_kill {id : Nat} {a : Act} {w : World} (f N : Nat) (hm : P.follows .mixedOrders = true) (hB : (backB 0 ops.toList && tailB ops f N && decide (N < ops.size) && apartB (ops.toList.take N)) = true) (kill : Nat → Option Nat) (R : Nat → World → World → Prop) (C : World → Prop) (Fact : Nat → Value → World → Prop)
    (hCR : ∀ k w w', C w → R k w w' → C w') (hFR : ∀ k i v w w', i ≠ k → kill i ≠ some k → Fact i v w → R k w w' → Fact i v w') (hC : C { w with drawn := w.drawn + 1 })
    (hops : allOps (fun i o => ∀ u w, C w → (∀ j, waits o j = true → alive ops kill i j = true → Fact j (u j) w) → ∀ K : Act → World → Prop, (∀ v w', R i w w' → Fact i v w' → K ((putAll a (ops.toList.take N) u 0).put o.dst v) w') →
      if Region.wanted o (yielded ops (putAll a (ops.toList.take N) u 0).tmps) then o.wp P (putAll a (ops.toList.take N) u 0) w K Q else K ((putAll a (ops.toList.take N) u 0).put o.dst undef) w) 0 (ops.toList.take N))
    (hQ : ∀ u w', C w' → (∀ i, i < N → kill i = none → Fact i (u i) w') → wpList P ops Q (ops.toList.drop N) (putAll a (ops.toList.take N) u 0) w') : (Code.region id ops true).wp P Q a w := by
  simp only [Bool.and_eq_true, decide_eq_true_eq] at hB
  obtain ⟨⟨⟨h1, h2⟩, h3⟩, h4⟩ := hB
  obtain ⟨u0, hu0, _⟩ := putAll_self (ops.toList.take N) a 0 h4
  have main := wp_region_kill_tail (P := P) (ops := ops) (Q := Q) (id := id) (w := w) f N hm h1 h2 h3 kill R C (fun u => putAll a (ops.toList.take N) u 0) Fact u0 hCR hFR hC ?_ hQ
  · rw [hu0] at main
    exact main
  · have conv : ∀ (l : List Oper) (k : Nat) (p q : Nat → Oper → Prop), allOps p k l → (∀ i o, l[i]? = some o → p (k + i) o → q (k + i) o) → allOps q k l := by
      intro l
      induction l with
      | nil => intros; trivial
      | cons o l ih =>
        intro k p q hp hpq
        exact ⟨hpq 0 o (by simp) hp.1, ih (k + 1) p q hp.2 (fun i o' ho' h' => by
          have := hpq (i + 1) o' (by simpa using ho')
          rw [show k + (i + 1) = k + 1 + i from by omega] at this
          exact this h')⟩
    refine conv _ 0 _ _ hops (fun i o ho hp => ⟨fun u v => ?_, hp⟩)
    exact putAll_upd (ops.toList.take N) a u 0 i o v h4 ho
end

/-- What a step leaves: operation K may grow a row from block B on; the others only make memory. -/
def RK (B K i : Nat) (w1 w2 : World) : Prop := if i = K then (∃ row, w1.grownBy w2 row ∧ ∀ k, row = some k → B ≤ k) else Below w1.heap.size w1 w2
section
variable {B K i : Nat} {W w1 w2 : World}
theorem RK.at_ (h : RK B K i w1 w2) (hne : i ≠ K) : Below w1.heap.size w1 w2 := by
  unfold RK at h
  rwa [if_neg hne] at h
theorem RK.keep (h : Below W.heap.size W w1) (r : RK W.heap.size K i w1 w2) : Below W.heap.size W w2 := by
  unfold RK at r
  split at r
  · obtain ⟨row, hg, hr⟩ := r
    exact h.trans ⟨hg.os, hg.tape, hg.output, hg.size, fun k hk => hg.block k (Nat.lt_of_lt_of_le hk h.size) (fun e => by have := hr k e.symm; omega)⟩
  · exact h.trans (r.mono h.size)
theorem RK.below (r : Below w1.heap.size w1 w2) (hne : i ≠ K) : RK B K i w1 w2 := by
  unfold RK
  rwa [if_neg hne]
theorem RK.same (hne : i ≠ K) : RK B K i w1 w1 := RK.below (Below.refl _ _) hne
theorem RK.grown {row : Option Nat} (hg : w1.grownBy w2 row) (hr : ∀ k, row = some k → B ≤ k) : RK B K K w1 w2 := by
  unfold RK
  rw [if_pos rfl]
  exact ⟨row, hg, hr⟩
end
/-- An empty row of the region's own. -/
def EmptyAt (w : World) (B : Nat) (t : TypeId) (v : Value) : Prop := ∃ g, v = .slice (some ⟨g, 0, none⟩) 0 0 ∧ B ≤ g ∧ w.heap[g]? = some (.cells #[] t (0, 0))
/-- A row of the region's own. -/
def RowAt (w : World) (B : Nat) (t : TypeId) (s n : Nat) (us : List Value) (v : Value) : Prop := w.ownsRow B t s v n us
/-- One element in a block of its own. -/
def OneAt (w : World) (t : TypeId) (cs : Array Value) (v : Value) : Prop := ∃ g, v = .slice (some ⟨g, 0, none⟩) 1 1 ∧ Blk w g t cs
section
variable {w w' : World} {B n s : Nat} {t : TypeId} {v : Value} {us : List Value} {cs : Array Value}
theorem EmptyAt.new (w : World) (t : TypeId) {B : Nat} (hB : B ≤ w.heap.size) : EmptyAt (w.alloc (.cells #[] t)) B t (.slice (some ⟨w.heap.size, 0, none⟩) 0 0) := ⟨_, rfl, hB, heap_alloc_new w _⟩
theorem EmptyAt.below (h : EmptyAt w B t v) (hb : Below w.heap.size w w') : EmptyAt w' B t v := by
  obtain ⟨g, h1, h2, h3⟩ := h
  exact ⟨g, h1, h2, by rw [hb.block g (Array.getElem?_eq_some_iff.1 h3).1]; exact h3⟩
theorem RowAt.below (h : RowAt w B t s n us v) (hb : Below w.heap.size w w') : RowAt w' B t s n us v :=
  World.ownsRow.kept (row := none) h ⟨hb.os, hb.tape, hb.output, hb.size, fun k hk _ => hb.block k hk⟩ (by cases v.ownBlock <;> simp)
theorem OneAt.new (w : World) (t : TypeId) (cs : Array Value) : OneAt (w.alloc (.cells cs t)) t cs (.slice (some ⟨w.heap.size, 0, none⟩) 1 1) := ⟨_, rfl, Blk.new w t cs⟩
theorem OneAt.below (h : OneAt w t cs v) (hb : Below w.heap.size w w') : OneAt w' t cs v := by
  obtain ⟨g, h1, h2⟩ := h
  exact ⟨g, h1, h2.below hb⟩
/-- The cells of a slice behind a cut. -/
theorem CellsAt.cut {A : Option Addr} {c k : Nat} (h : CellsAt w A n s us) (hk : k ≤ n) (hc : n ≤ c) : CellsAt w (if c = k then A else A.map (·.add (k * s))) (n - k) s (us.drop (k * s)) := by
  have hl := h.1
  refine ⟨by rw [List.length_drop, hl, Nat.sub_mul], fun j u hj => ?_⟩
  rw [List.getElem?_drop] at hj
  obtain ⟨b, off, rfl, h2⟩ := h.2 _ u hj
  have hlt := (List.getElem?_eq_some_iff.1 hj).1
  rw [hl] at hlt
  have hne : c ≠ k := by
    rintro rfl
    have : n = c := by omega
    subst this
    omega
  rw [if_neg hne]
  exact ⟨b, off + k * s, by rw [Option.map_some, Addr.add_lit], by rw [Nat.add_assoc]; exact h2⟩
theorem CellsAt.pre {A : Option Addr} {k : Nat} (h : CellsAt w A n s us) (hk : k ≤ n) : CellsAt w A k s (us.take (k * s)) := by
  have hl := h.1
  have := Nat.mul_le_mul_right s hk
  refine ⟨by rw [List.length_take, hl]; omega, fun j u hj => ?_⟩
  rw [List.getElem?_take] at hj
  split at hj
  · exact h.2 j u hj
  · cases hj
end
theorem run_appNone {P : Program} (w : World) (t ty e : TypeId) (i : TypeInfo) (ht : P.underlying t = some (.slice e)) (hi : P.info? e = some i) (A : Option Addr) (n c c2 : Nat) (hn : n ≤ c) :
    (Builtin.append_ #[t, t] ty #[.slice A n c, .slice none 0 c2]).run P w = .ok (.slice A n c) w := by
  rcases A with _ | ad <;> simp [Builtin.append_, run_underlying ht, sizeOf, typeInfo, hi, Builtin.lenOf, Builtin.firstCells, storeCells, hn]
section
variable {P : Program} {w : World}
/-- 's[k:]'. -/
theorem wp_slice_from {o : Oper} {a : Act} {K : Act → World → Prop} {Q : Exit → Act → World → Prop} (t : TypeId) (x lo : Operand) (ho : o.op = .slice t x (some lo) none none) (ht : P.underlying t = some (.slice (P.elem t))) (size : Nat) (hsz : ∀ w, (sizeOf (P.elem t)).run P w = .ok size w)
    (A : Option Addr) (n c k : Nat) (hx : a.eval x = .slice A n c) (hl : a.eval lo = .int .i64 k) (hk : k ≤ n) (h : K (a.put o.dst (.slice (if c = k then A else A.map (·.add (k * size))) (n - k) (c - k))) w) : o.wp P a w K Q := by
  unfold Oper.wp execOp
  have e := run_slice_l (P := P) w t A n c ht .i64 (k : Int) (by omega) (by omega)
  simp only [ho, hx, hl, Option.map]
  simp only [Sem.run_bind, run_sliceAt_slice _ _ _ _ _ _ ht, e, hsz, Result.andThen_ok, Int.toNat_natCast, sliced]
  exact h
/-- 's[:k]'. -/
theorem wp_slice_to {o : Oper} {a : Act} {K : Act → World → Prop} {Q : Exit → Act → World → Prop} (t : TypeId) (x hi : Operand) (ho : o.op = .slice t x none (some hi) none) (ht : P.underlying t = some (.slice (P.elem t))) (size : Nat) (hsz : ∀ w, (sizeOf (P.elem t)).run P w = .ok size w)
    (A : Option Addr) (n c k : Nat) (hx : a.eval x = .slice A n c) (hl : a.eval hi = .int .i64 k) (hk : k ≤ c) (h : K (a.put o.dst (.slice A k c)) w) : o.wp P a w K Q := by
  unfold Oper.wp execOp
  have e := run_slice_h (P := P) w t A n c ht .i64 (k : Int) (by omega) (by omega)
  have ea : (if c = 0 then A else A.map (·.add (0 * size))) = A := by
    split
    · rfl
    · cases A with
      | none => rfl
      | some ad => simp [Addr.add]
  simp only [ho, hx, hl, Option.map]
  simp only [Sem.run_bind, run_sliceAt_slice _ _ _ _ _ _ ht, e, hsz, Result.andThen_ok, Int.toNat_natCast, sliced, ea, Nat.sub_zero]
  exact h
/-- 'append(s, x...)', s a row of the call's own, x whatever reads as cells. -/
theorem wp_append_own {o : Oper} {a : Act} {K : Act → World → Prop} {Q : Exit → Act → World → Prop} (s x : Operand) (t : TypeId)
    (ho : o.op = .call { callee := .builtin .append, args := #[s, x], argTypes := #[t, t] })
    (base : Nat) (e : TypeId) (i : TypeInfo) (z : Value) (size bytes : Nat) (ht : P.underlying t = some (.slice e)) (hi : P.info? e = some i) (hz : i.zero = some z)
    (hsize : i.size = size) (hby : i.bytes = bytes) (hzs : z.cells.size = size) (hsz : 0 < size)
    (v : Value) (n : Nat) (us : List Value) (hs : a.eval s = v) (hown : w.ownsRow base e size v n us)
    (A : Option Addr) (m c : Nat) (news : List Value) (hx : a.eval x = .slice A m c) (hz0 : A = none → m = 0) (hr : CellsAt w A m size news) (h1 : ∀ u ∈ news, u.oneCell' = true)
    (h63 : n + m ≤ maxLen) (hbytes : (n + m) * bytes ≤ 140737488355328) (hbase : base ≤ w.heap.size)
    (h : ∀ v' w', RowAt w' base e size (n + m) (us ++ news) v' → w.grownBy w' v.ownBlock → K (a.put o.dst v') w') : o.wp P a w K Q := by
  have main : ∃ v' w', (Builtin.append_ #[t, t] o.type #[v, .slice A m c]).run P w = .ok v' w' ∧ w'.ownsRow base e size v' (n + m) (us ++ news) ∧ w.grownBy w' v.ownBlock := by
    cases A with
    | none =>
      have h0 := hz0 rfl
      subst h0
      have hm : news = [] := List.eq_nil_of_length_eq_zero (by rw [hr.1]; simp)
      subst hm
      obtain ⟨A1, c1, rfl, hc1⟩ : ∃ A1 c1, v = .slice A1 n c1 ∧ n ≤ c1 := by
        rcases hown.2 with ⟨rfl, h0⟩ | ⟨g, cap, cur, rfl, _, _, h2, _⟩
        · exact ⟨none, 0, by rw [h0], by omega⟩
        · exact ⟨_, _, rfl, h2⟩
      exact ⟨_, w, run_appNone w t o.type e i ht hi A1 n c1 c hc1, by rw [List.append_nil]; exact hown, ⟨rfl, rfl, rfl, Nat.le_refl _, fun _ _ _ => rfl⟩⟩
    | some ad =>
      obtain ⟨v', w', hr', h2, h3, _, _⟩ := run_append_own_at (P := P) w base t o.type e i z size bytes ht hi hz hsize hby hzs hsz v n us hown ad m c news hr.1 (fun j u hj => by
        obtain ⟨b', off', he, h4⟩ := hr.2 j u hj
        injection he with he
        subst he
        rw [Addr.add_lit]
        exact h4) h1 h63 hbytes hbase
      exact ⟨v', w', hr', h2, h3⟩
  obtain ⟨v', w', hrun, h2, h3⟩ := main
  unfold Oper.wp execOp
  simp only [ho, resolve, invoke, builtin, Sem.run_bind, Sem.run_pure, Result.andThen_ok, List.map_toArray, List.map_cons, List.map_nil, hs, hx, hrun]
  exact h v' w' h2 h3
end
theorem row_base {w : World} {B s n : Nat} {t : TypeId} {us : List Value} {v : Value} (h : RowAt w B t s n us v) : ∀ k, v.ownBlock = some k → B ≤ k := fun k hk => (World.ownsRow.lt h k hk).1
end Go.Proofs.YtojbddcbnnbklaaGreatDoor
namespace Go.Proofs.YtojbddcbnnbklaaGreatDoor
open Go.RowKit P43 Go.Sort
attribute [local go_sem] ByteArray.mk_append_mk ByteArray.extract_mk mk_index
attribute [local irreducible] wpQuiet

theorem CellsAt.none_ {w : World} {A : Option Addr} {n s : Nat} {us : List Value} (h : CellsAt w A n s us) (hs : 0 < s) : A = none → n = 0 := by
  intro e
  rcases Nat.eq_zero_or_pos n with h0 | h0
  · exact h0
  · have hl : 0 < us.length := by rw [h.1]; exact Nat.mul_pos h0 hs
    obtain ⟨b, off, h1, _⟩ := h.2 0 us[0] (List.getElem?_eq_getElem hl)
    rw [e] at h1
    cases h1
theorem one_cells' {w : World} {g : Nat} {t : TypeId} {xa : Array Value} {xc : List Value} {s : Nat} (h : Blk w g t xa) (hx : xa.toList = xc) (hl : xc.length = 1 * s) : CellsAt w (some ⟨g, 0, none⟩) 1 s xc := by
  subst hx
  refine ⟨hl, fun j u hj => ⟨g, 0, rfl, ?_⟩⟩
  have := h.add j u (by simpa using hj)
  rwa [Addr.add_lit] at this
/-- 'append(s, x...)' in a list of operations, x whatever reads as cells. -/
theorem wpList_append_own2 {P : Program} {w : World} {ops : Array Oper} {rest : List Oper} {o : Oper} {a : Act} {Q : Exit → Act → World → Prop} (hgd : o.guard = none) (s x : Operand) (t : TypeId)
    (ho : o.op = .call { callee := .builtin .append, args := #[s, x], argTypes := #[t, t] })
    (base : Nat) (e : TypeId) (i : TypeInfo) (z : Value) (size bytes : Nat) (ht : P.underlying t = some (.slice e)) (hi : P.info? e = some i) (hz : i.zero = some z)
    (hsize : i.size = size) (hby : i.bytes = bytes) (hzs : z.cells.size = size) (hsz : 0 < size)
    (v : Value) (n : Nat) (us : List Value) (hs : a.eval s = v) (hown : w.ownsRow base e size v n us)
    (A : Option Addr) (m c : Nat) (news : List Value) (hx : a.eval x = .slice A m c) (hz0 : A = none → m = 0) (hr : CellsAt w A m size news) (h1 : ∀ u ∈ news, u.oneCell' = true)
    (h63 : n + m ≤ maxLen) (hbytes : (n + m) * bytes ≤ 140737488355328) (hbase : base ≤ w.heap.size)
    (h : ∀ v' w', RowAt w' base e size (n + m) (us ++ news) v' → w.grownBy w' v.ownBlock → wpList P ops Q rest (a.put o.dst v') w') : wpList P ops Q (o :: rest) a w := by
  refine wpList_plain hgd fun K hK => ?_
  exact wp_append_own s x t ho base e i z size bytes ht hi hz hsize hby hzs hsz v n us hs hown A m c news hx hz0 hr h1 h63 hbytes hbase (fun v' w' h2 h3 => hK _ _ (h v' w' h2 h3))
theorem wp_load_cells {P : Program} {w : World} {o : Oper} {a : Act} {K : Act → World → Prop} {Q : Exit → Act → World → Prop} (ty : TypeId) (x : Operand) (ho : o.op = .load ty x)
    (ad : Addr) (hx : a.eval x = .pointer (some ad)) (cs : Array Value) (d : TypeDesc) (hc : ∀ j u, cs[j]? = some u → w.cell? (ad.add j) = some u)
    (hu : P.underlying ty = some d) (hd : (match d with | .struct _ | .array _ _ => true | _ => false) = true) (hi : (P.info? ty).map (·.size) = some cs.size)
    (h : K (a.put o.dst (.agg cs)) w) : o.wp P a w K Q := by
  unfold Oper.wp execOp
  simp only [ho, hx, Instr.loadAt, Instr.sureAddr, Sem.run_bind, Sem.run_pure, Result.andThen_ok, run_loadVar_cells w ad ty cs d hc hu hd hi]
  exact h
def ZAt (w : World) (A : Option Addr) (n : Nat) (xs : List Int) : Prop := CellsAt w A n 1 (xs.map (Value.int .i64))
section
variable {w w' : World} {A : Option Addr} {n B : Nat} {xs : List Int} {v : Value}
theorem ZAt.len (h : ZAt w A n xs) : xs.length = n := by have := h.1; simpa using this
theorem ZAt.below (h : ZAt w A n xs) (hb : Below w.heap.size w w') : ZAt w' A n xs := CellsAt.below h hb
theorem ZAt.at_ (h : ZAt w A n xs) {k : Nat} (hk : k < n) : ∃ b off x, A = some ⟨b, off, none⟩ ∧ xs[k]? = some x ∧ w.cell? ⟨b, off + k, none⟩ = some (.int .i64 x) := by
  have hl := h.len
  have hg : xs[k]? = some xs[k] := List.getElem?_eq_getElem (by omega)
  obtain ⟨b, off, h1, h2⟩ := h.2 k (.int .i64 xs[k]) (by rw [List.getElem?_map, hg]; rfl)
  exact ⟨b, off, _, h1, hg, h2⟩
theorem zs_one (xs : List Int) : ∀ u ∈ xs.map (Value.int .i64), u.oneCell' = true := by
  intro u hu
  obtain ⟨x, _, rfl⟩ := List.mem_map.1 hu
  rfl
theorem OwnI.zcells (h : OwnI w B v xs) : ∃ A c, v = .slice A xs.length c ∧ ZAt w A xs.length xs ∧ xs.length ≤ c := by
  rcases h.2 with ⟨rfl, h0⟩ | ⟨g, cap, cur, rfl, _, _, h1, h2, _⟩
  · have : xs = [] := List.eq_nil_of_length_eq_zero h0
    subst this
    exact ⟨none, 0, rfl, ⟨rfl, fun j u h => by simp at h⟩, Nat.zero_le _⟩
  · refine ⟨_, _, rfl, ⟨h.1, fun j u hj => ⟨g, 0, rfl, ?_⟩⟩, h1⟩
    have hc := World.ownsRow.cells h (g := g) rfl j u hj
    rw [Addr.add_lit] at hc
    exact hc
theorem OwnR.cap {ls : List Om} {e : TypeId} (h : OwnR w B e v ls) : ∃ A c, v = .slice A ls.length c ∧ OwsAt w A ls.length ls ∧ ls.length ≤ c := by
  rcases h.2 with ⟨rfl, h0⟩ | ⟨g, cap, cur, rfl, _, _, h1, h2, _⟩
  · have : ls = [] := List.eq_nil_of_length_eq_zero h0
    subst this
    exact ⟨none, 0, rfl, OwsAt.nil, Nat.zero_le _⟩
  · refine ⟨_, _, rfl, ⟨h.1, fun j u hj => ⟨g, 0, rfl, ?_⟩⟩, h1⟩
    have hc := World.ownsRow.cells h (g := g) rfl j u hj
    rw [Addr.add_lit] at hc
    exact hc
theorem OwnN.cap {ls : List (Nm × Bool)} {e : TypeId} (h : OwnN w B e v ls) : ∃ A c, v = .slice A ls.length c ∧ NlsAt w A ls.length ls ∧ ls.length ≤ c := by
  rcases h.2 with ⟨rfl, h0⟩ | ⟨g, cap, cur, rfl, _, _, h1, h2, _⟩
  · have : ls = [] := List.eq_nil_of_length_eq_zero h0
    subst this
    exact ⟨none, 0, rfl, NlsAt.nil, Nat.zero_le _⟩
  · refine ⟨_, _, rfl, ⟨h.1, fun j u hj => ⟨g, 0, rfl, ?_⟩⟩, h1⟩
    have hc := World.ownsRow.cells h (g := g) rfl j u hj
    rw [Addr.add_lit] at hc
    exact hc
end
theorem take_mul (ls : List Om) (k : Nat) : (rcs ls).take (k * 2) = rcs (ls.take k) := by
  induction ls generalizing k with
  | nil => simp [rcs_nil]
  | cons l ls ih =>
    cases k with
    | zero => simp [rcs_nil]
    | succ k =>
      rw [List.take_succ_cons, rcs_cons, rcs_cons, show (k + 1) * 2 = (rc l).length + k * 2 from by simp [rc]; omega, List.take_length_add_append, ih]
theorem drop_mul (ls : List Om) (k : Nat) : (rcs ls).drop (k * 2) = rcs (ls.drop k) := by
  induction ls generalizing k with
  | nil => simp [rcs_nil]
  | cons l ls ih =>
    cases k with
    | zero => simp
    | succ k =>
      rw [List.drop_succ_cons, rcs_cons, show (k + 1) * 2 = (rc l).length + k * 2 from by simp [rc]; omega, ← List.drop_drop, List.drop_left, ih]
theorem takeN_mul (ls : List (Nm × Bool)) (k : Nat) : (ncs ls).take (k * 2) = ncs (ls.take k) := by
  induction ls generalizing k with
  | nil => simp [ncs_nil]
  | cons l ls ih =>
    cases k with
    | zero => simp [ncs_nil]
    | succ k =>
      rw [List.take_succ_cons, ncs_cons, ncs_cons, show (k + 1) * 2 = (nc l).length + k * 2 from by simp [nc]; omega, List.take_length_add_append, ih]
theorem dropN_mul (ls : List (Nm × Bool)) (k : Nat) : (ncs ls).drop (k * 2) = ncs (ls.drop k) := by
  induction ls generalizing k with
  | nil => simp [ncs_nil]
  | cons l ls ih =>
    cases k with
    | zero => simp
    | succ k =>
      rw [List.drop_succ_cons, ncs_cons, show (k + 1) * 2 = (nc l).length + k * 2 from by simp [nc]; omega, ← List.drop_drop, List.drop_left, ih]
theorem ins_len {α : Type} {l : List α} {k n : Nat} (hl : l.length = n) (hk : k ≤ n) (x : α) : (l.take k ++ x :: l.drop k).length = k + 1 + (n - k) := by
  rw [List.length_append, List.length_take, List.length_cons, List.length_drop]
  omega
set_option maxRecDepth 100000 in
set_option maxHeartbeats 4000000 in
theorem refAdd (A : Option Addr) (n c : Nat) (m : Int) (ls : List Int) (w : World) (h : ZAt w A n ls) (hc : n ≤ c) (hn : n ≤ 100000) (ha : ls.Pairwise (· ≤ ·)) :
    Calls Tryz.prog 33 #[.slice A n c, .int .i64 m] w fun e w' => ∃ v, e = .returned v ∧ OwnI w' w.heap.size v (sortZ (ls ++ [m])) ∧ Below w.heap.size w w' := by
  have H := Lib.hid h
  have HN := Lib.hid h.len
  have HA := Lib.hid ha
  obtain ⟨i0, hi0, hz0, hz1, hz2⟩ := info_parts infoI
  have HI := Lib.hid hi0
  have HZ0 := Lib.hid hz0
  have HZ1 := Lib.hid hz1
  have HZ2 := Lib.hid hz2
  have HONE := Lib.hid (zs_one ls)
  have HXONE := Lib.hid (show ∀ u ∈ [Value.int .i64 m], u.oneCell' = true from zs_one [m])
  clear h ha hi0 hz0 hz1 hz2
  go_enter Tryz.func33, Tryz.ntmps33
  go_wp2
  go_loopw [5] (fun kv wr => ∃ k : Nat, k ≤ n ∧ kv = .int .i64 k ∧ Hid (∀ j x, k ≤ j → ls[j]? = some x → m < id x) ∧ Below w.heap.size w wr) (fun kv _ => (intOf kv).toNat)
  case atStart => exact ⟨n, Nat.le_refl _, rfl, fun j x hj hx => absurd (List.getElem?_eq_some_iff.1 hx).1 (by rw [HN.out]; omega), Below.refl _ _⟩
  case round =>
    obtain ⟨k, hk, rfl, hall, hb⟩ := hrel
    have HB := Lib.hid hb
    clear hb
    have key : (k = 0 ∨ ∃ x, ls[k - 1]? = some x ∧ id x ≤ m) ∨ ∃ k', k = k' + 1 ∧ ∃ x, ls[k']? = some x ∧ m < x := by
      cases k with
      | zero => exact .inl (.inl rfl)
      | succ k' =>
        have hkl : k' < ls.length := by rw [HN.out]; omega
        by_cases hlt : m < ls[k']
        · exact .inr ⟨k', rfl, _, List.getElem?_eq_getElem hkl, hlt⟩
        · exact .inl (.inr ⟨_, List.getElem?_eq_getElem hkl, by show ls[k'] ≤ m; omega⟩)
    rcases key with hbef | ⟨k', rfl, x, hx, hlt⟩
    · have HIA := Lib.hid (show InsAt id ls m k from ⟨by rw [HN.out]; exact hk, hall.out, hbef⟩)
      rcases hbef with rfl | ⟨x, hx, hle⟩
      · go_upto_region 4 with (fail)
        have HSL := Lib.hid (H.out.below HB.out)
        have HP := Lib.hid (show CellsAt wr A 0 1 ((ls.map (Value.int .i64)).take (0 * 1)) from HSL.out.pre (by omega))
        have HDR := Lib.hid (HSL.out.cut (k := 0) (c := c) (by omega) (by omega))
        have HND := Lib.hid (HDR.out.none_ (by omega))
        refine wp_region_kill 8 11 (by kernel_rfl) (by kernel_rfl) (fun i => match i with | 0 => some 7 | 4 => some 7 | 6 => some 7 | _ => none) (RK wr.heap.size 7) (fun w1 => Below wr.heap.size wr w1)
          (fun i v w1 => match i with
            | 0 => EmptyAt w1 wr.heap.size 3 v
            | 1 => v = .slice A n c
            | 2 => v = .int .i64 0
            | 3 => v = .slice A 0 c
            | 4 => RowAt w1 wr.heap.size 3 1 0 ((ls.map (Value.int .i64)).take (0 * 1)) v
            | 5 => v = .int .i64 m
            | 6 => OneAt w1 3 #[.int .i64 m] v
            | 7 => RowAt w1 wr.heap.size 3 1 (0 + 1) ((ls.map (Value.int .i64)).take (0 * 1) ++ [.int .i64 m]) v
            | 8 => v = .slice A n c
            | 9 => v = .int .i64 0
            | 10 => v = .slice (if c = 0 then A else A.map (·.add (0 * 1))) (n - 0) (c - 0)
            | _ => True) (fun _ _ _ h1 h2 => RK.keep h1 h2) ?_ ((Below.refl _ _).drew) ?_ ?_
        · intro kk ii vv w1 w2 hik hk hf hR
          match ii, hik, hk, hf with
          | 0, _, hk, hf => exact EmptyAt.below hf (RK.at_ hR (fun e => hk (by subst e; rfl)))
          | 1, _, _, hf => exact hf
          | 2, _, _, hf => exact hf
          | 3, _, _, hf => exact hf
          | 4, _, hk, hf => exact RowAt.below hf (RK.at_ hR (fun e => hk (by subst e; rfl)))
          | 5, _, _, hf => exact hf
          | 6, _, hk, hf => exact OneAt.below hf (RK.at_ hR (fun e => hk (by subst e; rfl)))
          | 7, hik, _, hf => exact RowAt.below hf (RK.at_ hR (Ne.symm hik))
          | 8, _, _, hf => exact hf
          | 9, _, _, hf => exact hf
          | 10, _, _, hf => exact hf
          | n + 11, _, _, _ => trivial
        · refine allOps_cons ?_ (allOps_cons ?_ (allOps_cons ?_ (allOps_cons ?_ (allOps_cons ?_ (allOps_cons ?_ (allOps_cons ?_ (allOps_cons ?_ (allOps_cons ?_ (allOps_cons ?_ (allOps_cons ?_ allOps_nil))))))))))
          · intro u w1 hC hd K hK
            simp only [List.take_succ_cons, List.take_zero, putAll, Act.put, List.setIfInBounds_toArray, List.set_cons_succ, List.set_cons_zero, Nat.zero_add, Nat.reduceAdd] at hK ⊢
            go_simp
            exact hK _ _ (RK.below (below_alloc (Below.refl _ _) _) (by decide)) (EmptyAt.new _ _ hC.size)
          · intro u w1 hC hd K hK
            simp only [List.take_succ_cons, List.take_zero, putAll, Act.put, List.setIfInBounds_toArray, List.set_cons_succ, List.set_cons_zero, Nat.zero_add, Nat.reduceAdd] at hK ⊢
            go_simp
            exact hK _ _ (RK.same (by decide)) rfl
          · intro u w1 hC hd K hK
            simp only [List.take_succ_cons, List.take_zero, putAll, Act.put, List.setIfInBounds_toArray, List.set_cons_succ, List.set_cons_zero, Nat.zero_add, Nat.reduceAdd] at hK ⊢
            go_simp
            exact hK _ _ (RK.same (by decide)) rfl
          · intro u w1 hC hd K hK
            have h1 : u 1 = .slice A n c := hd 1 rfl rfl
            have h2 : u 2 = .int .i64 0 := hd 2 rfl rfl
            simp only [List.take_succ_cons, List.take_zero, putAll, Act.put, List.setIfInBounds_toArray, List.set_cons_succ, List.set_cons_zero, Nat.zero_add, Nat.reduceAdd, h1, h2] at hK ⊢
            rw [if_pos (show Region.wanted _ _ = true from rfl)]
            exact wp_slice_to 33 (.tmp 22) (.tmp 23) rfl Tryz.underlying33 1 (fun _ => by kernel_rfl) A n c 0 rfl rfl (by omega) (hK _ _ (RK.same (by decide)) rfl)
          · intro u w1 hC hd K hK
            have h3 : u 3 = .slice A 0 c := hd 3 rfl rfl
            obtain ⟨g0, hg0, hg1, hg2⟩ := hd 0 rfl rfl
            simp only [List.take_succ_cons, List.take_zero, putAll, Act.put, List.setIfInBounds_toArray, List.set_cons_succ, List.set_cons_zero, Nat.zero_add, Nat.reduceAdd, h3] at hK ⊢
            rw [if_pos (show Region.wanted _ _ = true from rfl)]
            refine wp_append_empty w1 (.tmp 21) (.tmp 24) 33 rfl 3 i0 _ 1 8 Tryz.underlying33 HI.out HZ0.out HZ1.out HZ2.out rfl (by omega) g0 wr.heap.size hg0 hg1 hg2 A 0 c _ rfl (HP.out.below hC) (fun u hu => HONE.out u (List.mem_of_mem_take hu)) (by unfold maxLen; omega) (by omega) ?_
            intro v' w2 hown2 hb2
            exact hK v' w2 (RK.below hb2 (by decide)) hown2
          · intro u w1 hC hd K hK
            simp only [List.take_succ_cons, List.take_zero, putAll, Act.put, List.setIfInBounds_toArray, List.set_cons_succ, List.set_cons_zero, Nat.zero_add, Nat.reduceAdd] at hK ⊢
            go_simp
            exact hK _ _ (RK.same (by decide)) rfl
          · intro u w1 hC hd K hK
            have h5 : u 5 = .int .i64 m := hd 5 rfl rfl
            simp only [List.take_succ_cons, List.take_zero, putAll, Act.put, List.setIfInBounds_toArray, List.set_cons_succ, List.set_cons_zero, Nat.zero_add, Nat.reduceAdd, h5] at hK ⊢
            go_simp
            exact hK _ _ (RK.below (below_alloc (Below.refl _ _) _) (by decide)) (OneAt.new _ _ _)
          · intro u w1 hC hd K hK
            have h4 : RowAt w1 wr.heap.size 3 1 0 ((ls.map (Value.int .i64)).take (0 * 1)) (u 4) := hd 4 rfl rfl
            obtain ⟨g1, hg0, hg1⟩ := hd 6 rfl rfl
            simp only [List.take_succ_cons, List.take_zero, putAll, Act.put, List.setIfInBounds_toArray, List.set_cons_succ, List.set_cons_zero, Nat.zero_add, Nat.reduceAdd] at hK ⊢
            rw [if_pos (show Region.wanted _ _ = true from rfl)]
            refine wp_append_own (.tmp 25) (.tmp 27) 33 rfl wr.heap.size 3 i0 _ 1 8 Tryz.underlying33 HI.out HZ0.out HZ1.out HZ2.out rfl (by omega) (u 4) 0 _ rfl h4 (some ⟨g1, 0, none⟩) 1 1 [.int .i64 m] hg0 (fun e => by cases e) (one_cells' hg1 rfl rfl) HXONE.out (by unfold maxLen; omega) (by omega) hC.size ?_
            intro v' w2 hr hg
            exact hK v' w2 (RK.grown hg (row_base h4)) hr
          · intro u w1 hC hd K hK
            simp only [List.take_succ_cons, List.take_zero, putAll, Act.put, List.setIfInBounds_toArray, List.set_cons_succ, List.set_cons_zero, Nat.zero_add, Nat.reduceAdd] at hK ⊢
            go_simp
            exact hK _ _ (RK.same (by decide)) rfl
          · intro u w1 hC hd K hK
            simp only [List.take_succ_cons, List.take_zero, putAll, Act.put, List.setIfInBounds_toArray, List.set_cons_succ, List.set_cons_zero, Nat.zero_add, Nat.reduceAdd] at hK ⊢
            go_simp
            exact hK _ _ (RK.same (by decide)) rfl
          · intro u w1 hC hd K hK
            have h8 : u 8 = .slice A n c := hd 8 rfl rfl
            have h9 : u 9 = .int .i64 0 := hd 9 rfl rfl
            simp only [List.take_succ_cons, List.take_zero, putAll, Act.put, List.setIfInBounds_toArray, List.set_cons_succ, List.set_cons_zero, Nat.zero_add, Nat.reduceAdd, h8, h9] at hK ⊢
            rw [if_pos (show Region.wanted _ _ = true from rfl)]
            exact wp_slice_from 33 (.tmp 29) (.tmp 30) rfl Tryz.underlying33 1 (fun _ => by kernel_rfl) A n c 0 rfl rfl (by omega) (hK _ _ (RK.same (by decide)) rfl)
        · intro u wt hC hf
          have hfK : RowAt wt wr.heap.size 3 1 (0 + 1) ((ls.map (Value.int .i64)).take (0 * 1) ++ [.int .i64 m]) (u 7) := hf 7 (by decide) rfl
          have hfL : u 10 = .slice (if c = 0 then A else A.map (·.add (0 * 1))) (n - 0) (c - 0) := hf 10 (by decide) rfl
          simp only [List.take_succ_cons, List.take_zero, List.drop_succ_cons, List.drop_zero, putAll, Act.put, List.setIfInBounds_toArray, List.set_cons_succ, List.set_cons_zero, Nat.zero_add, Nat.reduceAdd, hfL]
          refine wpList_append_own2 rfl (.tmp 28) (.tmp 31) 33 rfl wr.heap.size 3 i0 _ 1 8 Tryz.underlying33 HI.out HZ0.out HZ1.out HZ2.out rfl (by omega) (u 7) (0 + 1) _ rfl hfK _ (n - 0) (c - 0) _ rfl HND.out (HDR.out.below hC) (fun u hu => HONE.out u (List.mem_of_mem_drop hu)) (by unfold maxLen; omega) (by omega) hC.size ?_
          intro v9 w9 ho9 hg9
          have HO9 := Lib.hid ho9
          have HB9 := Lib.hid (show Below wr.heap.size wr w9 from RK.keep (i := 0) hC (RK.grown hg9 (row_base hfK)))
          clear ho9 hg9 hfK hfL hf hC
          have hrow : OwnI w9 w.heap.size v9 (ls.take (0) ++ m :: ls.drop (0)) := by
            have h1 := HO9.out
            unfold OwnI
            rw [ins_len HN.out (by omega) m, List.map_append, List.map_cons, List.map_take, List.map_drop]
            have := World.ownsRow.mono h1 HB.out.size
            simpa using this
          rw [ins_sortZ HA.out HIA.out] at hrow
          have HR := Lib.hid hrow
          clear hrow HO9
          go_wp2
          all_goals go_ret
          all_goals exact ⟨_, rfl, HR.out, HB.out.trans (HB9.out.mono HB.out.size)⟩
      · cases k with
        | zero =>
          go_upto_region 4 with (fail)
          have HSL := Lib.hid (H.out.below HB.out)
          have HP := Lib.hid (show CellsAt wr A 0 1 ((ls.map (Value.int .i64)).take (0 * 1)) from HSL.out.pre (by omega))
          have HDR := Lib.hid (HSL.out.cut (k := 0) (c := c) (by omega) (by omega))
          have HND := Lib.hid (HDR.out.none_ (by omega))
          refine wp_region_kill 8 11 (by kernel_rfl) (by kernel_rfl) (fun i => match i with | 0 => some 7 | 4 => some 7 | 6 => some 7 | _ => none) (RK wr.heap.size 7) (fun w1 => Below wr.heap.size wr w1)
            (fun i v w1 => match i with
              | 0 => EmptyAt w1 wr.heap.size 3 v
              | 1 => v = .slice A n c
              | 2 => v = .int .i64 0
              | 3 => v = .slice A 0 c
              | 4 => RowAt w1 wr.heap.size 3 1 0 ((ls.map (Value.int .i64)).take (0 * 1)) v
              | 5 => v = .int .i64 m
              | 6 => OneAt w1 3 #[.int .i64 m] v
              | 7 => RowAt w1 wr.heap.size 3 1 (0 + 1) ((ls.map (Value.int .i64)).take (0 * 1) ++ [.int .i64 m]) v
              | 8 => v = .slice A n c
              | 9 => v = .int .i64 0
              | 10 => v = .slice (if c = 0 then A else A.map (·.add (0 * 1))) (n - 0) (c - 0)
              | _ => True) (fun _ _ _ h1 h2 => RK.keep h1 h2) ?_ ((Below.refl _ _).drew) ?_ ?_
          · intro kk ii vv w1 w2 hik hk hf hR
            match ii, hik, hk, hf with
            | 0, _, hk, hf => exact EmptyAt.below hf (RK.at_ hR (fun e => hk (by subst e; rfl)))
            | 1, _, _, hf => exact hf
            | 2, _, _, hf => exact hf
            | 3, _, _, hf => exact hf
            | 4, _, hk, hf => exact RowAt.below hf (RK.at_ hR (fun e => hk (by subst e; rfl)))
            | 5, _, _, hf => exact hf
            | 6, _, hk, hf => exact OneAt.below hf (RK.at_ hR (fun e => hk (by subst e; rfl)))
            | 7, hik, _, hf => exact RowAt.below hf (RK.at_ hR (Ne.symm hik))
            | 8, _, _, hf => exact hf
            | 9, _, _, hf => exact hf
            | 10, _, _, hf => exact hf
            | n + 11, _, _, _ => trivial
          · refine allOps_cons ?_ (allOps_cons ?_ (allOps_cons ?_ (allOps_cons ?_ (allOps_cons ?_ (allOps_cons ?_ (allOps_cons ?_ (allOps_cons ?_ (allOps_cons ?_ (allOps_cons ?_ (allOps_cons ?_ allOps_nil))))))))))
            · intro u w1 hC hd K hK
              simp only [List.take_succ_cons, List.take_zero, putAll, Act.put, List.setIfInBounds_toArray, List.set_cons_succ, List.set_cons_zero, Nat.zero_add, Nat.reduceAdd] at hK ⊢
              go_simp
              exact hK _ _ (RK.below (below_alloc (Below.refl _ _) _) (by decide)) (EmptyAt.new _ _ hC.size)
            · intro u w1 hC hd K hK
              simp only [List.take_succ_cons, List.take_zero, putAll, Act.put, List.setIfInBounds_toArray, List.set_cons_succ, List.set_cons_zero, Nat.zero_add, Nat.reduceAdd] at hK ⊢
              go_simp
              exact hK _ _ (RK.same (by decide)) rfl
            · intro u w1 hC hd K hK
              simp only [List.take_succ_cons, List.take_zero, putAll, Act.put, List.setIfInBounds_toArray, List.set_cons_succ, List.set_cons_zero, Nat.zero_add, Nat.reduceAdd] at hK ⊢
              go_simp
              exact hK _ _ (RK.same (by decide)) rfl
            · intro u w1 hC hd K hK
              have h1 : u 1 = .slice A n c := hd 1 rfl rfl
              have h2 : u 2 = .int .i64 0 := hd 2 rfl rfl
              simp only [List.take_succ_cons, List.take_zero, putAll, Act.put, List.setIfInBounds_toArray, List.set_cons_succ, List.set_cons_zero, Nat.zero_add, Nat.reduceAdd, h1, h2] at hK ⊢
              rw [if_pos (show Region.wanted _ _ = true from rfl)]
              exact wp_slice_to 33 (.tmp 22) (.tmp 23) rfl Tryz.underlying33 1 (fun _ => by kernel_rfl) A n c 0 rfl rfl (by omega) (hK _ _ (RK.same (by decide)) rfl)
            · intro u w1 hC hd K hK
              have h3 : u 3 = .slice A 0 c := hd 3 rfl rfl
              obtain ⟨g0, hg0, hg1, hg2⟩ := hd 0 rfl rfl
              simp only [List.take_succ_cons, List.take_zero, putAll, Act.put, List.setIfInBounds_toArray, List.set_cons_succ, List.set_cons_zero, Nat.zero_add, Nat.reduceAdd, h3] at hK ⊢
              rw [if_pos (show Region.wanted _ _ = true from rfl)]
              refine wp_append_empty w1 (.tmp 21) (.tmp 24) 33 rfl 3 i0 _ 1 8 Tryz.underlying33 HI.out HZ0.out HZ1.out HZ2.out rfl (by omega) g0 wr.heap.size hg0 hg1 hg2 A 0 c _ rfl (HP.out.below hC) (fun u hu => HONE.out u (List.mem_of_mem_take hu)) (by unfold maxLen; omega) (by omega) ?_
              intro v' w2 hown2 hb2
              exact hK v' w2 (RK.below hb2 (by decide)) hown2
            · intro u w1 hC hd K hK
              simp only [List.take_succ_cons, List.take_zero, putAll, Act.put, List.setIfInBounds_toArray, List.set_cons_succ, List.set_cons_zero, Nat.zero_add, Nat.reduceAdd] at hK ⊢
              go_simp
              exact hK _ _ (RK.same (by decide)) rfl
            · intro u w1 hC hd K hK
              have h5 : u 5 = .int .i64 m := hd 5 rfl rfl
              simp only [List.take_succ_cons, List.take_zero, putAll, Act.put, List.setIfInBounds_toArray, List.set_cons_succ, List.set_cons_zero, Nat.zero_add, Nat.reduceAdd, h5] at hK ⊢
              go_simp
              exact hK _ _ (RK.below (below_alloc (Below.refl _ _) _) (by decide)) (OneAt.new _ _ _)
            · intro u w1 hC hd K hK
              have h4 : RowAt w1 wr.heap.size 3 1 0 ((ls.map (Value.int .i64)).take (0 * 1)) (u 4) := hd 4 rfl rfl
              obtain ⟨g1, hg0, hg1⟩ := hd 6 rfl rfl
              simp only [List.take_succ_cons, List.take_zero, putAll, Act.put, List.setIfInBounds_toArray, List.set_cons_succ, List.set_cons_zero, Nat.zero_add, Nat.reduceAdd] at hK ⊢
              rw [if_pos (show Region.wanted _ _ = true from rfl)]
              refine wp_append_own (.tmp 25) (.tmp 27) 33 rfl wr.heap.size 3 i0 _ 1 8 Tryz.underlying33 HI.out HZ0.out HZ1.out HZ2.out rfl (by omega) (u 4) 0 _ rfl h4 (some ⟨g1, 0, none⟩) 1 1 [.int .i64 m] hg0 (fun e => by cases e) (one_cells' hg1 rfl rfl) HXONE.out (by unfold maxLen; omega) (by omega) hC.size ?_
              intro v' w2 hr hg
              exact hK v' w2 (RK.grown hg (row_base h4)) hr
            · intro u w1 hC hd K hK
              simp only [List.take_succ_cons, List.take_zero, putAll, Act.put, List.setIfInBounds_toArray, List.set_cons_succ, List.set_cons_zero, Nat.zero_add, Nat.reduceAdd] at hK ⊢
              go_simp
              exact hK _ _ (RK.same (by decide)) rfl
            · intro u w1 hC hd K hK
              simp only [List.take_succ_cons, List.take_zero, putAll, Act.put, List.setIfInBounds_toArray, List.set_cons_succ, List.set_cons_zero, Nat.zero_add, Nat.reduceAdd] at hK ⊢
              go_simp
              exact hK _ _ (RK.same (by decide)) rfl
            · intro u w1 hC hd K hK
              have h8 : u 8 = .slice A n c := hd 8 rfl rfl
              have h9 : u 9 = .int .i64 0 := hd 9 rfl rfl
              simp only [List.take_succ_cons, List.take_zero, putAll, Act.put, List.setIfInBounds_toArray, List.set_cons_succ, List.set_cons_zero, Nat.zero_add, Nat.reduceAdd, h8, h9] at hK ⊢
              rw [if_pos (show Region.wanted _ _ = true from rfl)]
              exact wp_slice_from 33 (.tmp 29) (.tmp 30) rfl Tryz.underlying33 1 (fun _ => by kernel_rfl) A n c 0 rfl rfl (by omega) (hK _ _ (RK.same (by decide)) rfl)
          · intro u wt hC hf
            have hfK : RowAt wt wr.heap.size 3 1 (0 + 1) ((ls.map (Value.int .i64)).take (0 * 1) ++ [.int .i64 m]) (u 7) := hf 7 (by decide) rfl
            have hfL : u 10 = .slice (if c = 0 then A else A.map (·.add (0 * 1))) (n - 0) (c - 0) := hf 10 (by decide) rfl
            simp only [List.take_succ_cons, List.take_zero, List.drop_succ_cons, List.drop_zero, putAll, Act.put, List.setIfInBounds_toArray, List.set_cons_succ, List.set_cons_zero, Nat.zero_add, Nat.reduceAdd, hfL]
            refine wpList_append_own2 rfl (.tmp 28) (.tmp 31) 33 rfl wr.heap.size 3 i0 _ 1 8 Tryz.underlying33 HI.out HZ0.out HZ1.out HZ2.out rfl (by omega) (u 7) (0 + 1) _ rfl hfK _ (n - 0) (c - 0) _ rfl HND.out (HDR.out.below hC) (fun u hu => HONE.out u (List.mem_of_mem_drop hu)) (by unfold maxLen; omega) (by omega) hC.size ?_
            intro v9 w9 ho9 hg9
            have HO9 := Lib.hid ho9
            have HB9 := Lib.hid (show Below wr.heap.size wr w9 from RK.keep (i := 0) hC (RK.grown hg9 (row_base hfK)))
            clear ho9 hg9 hfK hfL hf hC
            have hrow : OwnI w9 w.heap.size v9 (ls.take (0) ++ m :: ls.drop (0)) := by
              have h1 := HO9.out
              unfold OwnI
              rw [ins_len HN.out (by omega) m, List.map_append, List.map_cons, List.map_take, List.map_drop]
              have := World.ownsRow.mono h1 HB.out.size
              simpa using this
            rw [ins_sortZ HA.out HIA.out] at hrow
            have HR := Lib.hid hrow
            clear hrow HO9
            go_wp2
            all_goals go_ret
            all_goals exact ⟨_, rfl, HR.out, HB.out.trans (HB9.out.mono HB.out.size)⟩
        | succ k' =>
          obtain ⟨b, off, x', rfl, hx', x0⟩ := (H.out.below HB.out).at_ (show k' < n from by omega)
          have hle' : ¬ m < x' := by
            have : x' = x := by rw [Nat.add_sub_cancel] at hx; rw [hx'] at hx; exact Option.some.inj hx
            simp only [id] at hle
            omega
          clear hx hx' hle
          have hk1 : (0 : Int) < (k' : Int) + 1 := by omega
          have hk2 : (k' : Int) < (n : Int) := by omega
          have hk3 : (0 : Int) ≤ (k' : Int) := by omega
          go_upto_region 4 with (fail)
          have HSL := Lib.hid (H.out.below HB.out)
          have HP := Lib.hid (show CellsAt wr (some ⟨b, off, none⟩ : Option Addr) (k' + 1) 1 ((ls.map (Value.int .i64)).take ((k' + 1) * 1)) from HSL.out.pre (by omega))
          have HDR := Lib.hid (HSL.out.cut (k := (k' + 1)) (c := c) (by omega) (by omega))
          have HND := Lib.hid (HDR.out.none_ (by omega))
          refine wp_region_kill 8 11 (by kernel_rfl) (by kernel_rfl) (fun i => match i with | 0 => some 7 | 4 => some 7 | 6 => some 7 | _ => none) (RK wr.heap.size 7) (fun w1 => Below wr.heap.size wr w1)
            (fun i v w1 => match i with
              | 0 => EmptyAt w1 wr.heap.size 3 v
              | 1 => v = .slice (some ⟨b, off, none⟩ : Option Addr) n c
              | 2 => v = .int .i64 (k' + 1)
              | 3 => v = .slice (some ⟨b, off, none⟩ : Option Addr) (k' + 1) c
              | 4 => RowAt w1 wr.heap.size 3 1 (k' + 1) ((ls.map (Value.int .i64)).take ((k' + 1) * 1)) v
              | 5 => v = .int .i64 m
              | 6 => OneAt w1 3 #[.int .i64 m] v
              | 7 => RowAt w1 wr.heap.size 3 1 ((k' + 1) + 1) ((ls.map (Value.int .i64)).take ((k' + 1) * 1) ++ [.int .i64 m]) v
              | 8 => v = .slice (some ⟨b, off, none⟩ : Option Addr) n c
              | 9 => v = .int .i64 (k' + 1)
              | 10 => v = .slice (if c = (k' + 1) then (some ⟨b, off, none⟩ : Option Addr) else (some ⟨b, off, none⟩ : Option Addr).map (·.add ((k' + 1) * 1))) (n - (k' + 1)) (c - (k' + 1))
              | _ => True) (fun _ _ _ h1 h2 => RK.keep h1 h2) ?_ ((Below.refl _ _).drew) ?_ ?_
          · intro kk ii vv w1 w2 hik hk hf hR
            match ii, hik, hk, hf with
            | 0, _, hk, hf => exact EmptyAt.below hf (RK.at_ hR (fun e => hk (by subst e; rfl)))
            | 1, _, _, hf => exact hf
            | 2, _, _, hf => exact hf
            | 3, _, _, hf => exact hf
            | 4, _, hk, hf => exact RowAt.below hf (RK.at_ hR (fun e => hk (by subst e; rfl)))
            | 5, _, _, hf => exact hf
            | 6, _, hk, hf => exact OneAt.below hf (RK.at_ hR (fun e => hk (by subst e; rfl)))
            | 7, hik, _, hf => exact RowAt.below hf (RK.at_ hR (Ne.symm hik))
            | 8, _, _, hf => exact hf
            | 9, _, _, hf => exact hf
            | 10, _, _, hf => exact hf
            | n + 11, _, _, _ => trivial
          · refine allOps_cons ?_ (allOps_cons ?_ (allOps_cons ?_ (allOps_cons ?_ (allOps_cons ?_ (allOps_cons ?_ (allOps_cons ?_ (allOps_cons ?_ (allOps_cons ?_ (allOps_cons ?_ (allOps_cons ?_ allOps_nil))))))))))
            · intro u w1 hC hd K hK
              simp only [List.take_succ_cons, List.take_zero, putAll, Act.put, List.setIfInBounds_toArray, List.set_cons_succ, List.set_cons_zero, Nat.zero_add, Nat.reduceAdd] at hK ⊢
              go_simp
              exact hK _ _ (RK.below (below_alloc (Below.refl _ _) _) (by decide)) (EmptyAt.new _ _ hC.size)
            · intro u w1 hC hd K hK
              simp only [List.take_succ_cons, List.take_zero, putAll, Act.put, List.setIfInBounds_toArray, List.set_cons_succ, List.set_cons_zero, Nat.zero_add, Nat.reduceAdd] at hK ⊢
              go_simp
              exact hK _ _ (RK.same (by decide)) rfl
            · intro u w1 hC hd K hK
              simp only [List.take_succ_cons, List.take_zero, putAll, Act.put, List.setIfInBounds_toArray, List.set_cons_succ, List.set_cons_zero, Nat.zero_add, Nat.reduceAdd] at hK ⊢
              go_simp
              exact hK _ _ (RK.same (by decide)) rfl
            · intro u w1 hC hd K hK
              have h1 : u 1 = .slice (some ⟨b, off, none⟩ : Option Addr) n c := hd 1 rfl rfl
              have h2 : u 2 = .int .i64 (k' + 1) := hd 2 rfl rfl
              simp only [List.take_succ_cons, List.take_zero, putAll, Act.put, List.setIfInBounds_toArray, List.set_cons_succ, List.set_cons_zero, Nat.zero_add, Nat.reduceAdd, h1, h2] at hK ⊢
              rw [if_pos (show Region.wanted _ _ = true from rfl)]
              exact wp_slice_to 33 (.tmp 22) (.tmp 23) rfl Tryz.underlying33 1 (fun _ => by kernel_rfl) (some ⟨b, off, none⟩ : Option Addr) n c (k' + 1) rfl rfl (by omega) (hK _ _ (RK.same (by decide)) rfl)
            · intro u w1 hC hd K hK
              have h3 : u 3 = .slice (some ⟨b, off, none⟩ : Option Addr) (k' + 1) c := hd 3 rfl rfl
              obtain ⟨g0, hg0, hg1, hg2⟩ := hd 0 rfl rfl
              simp only [List.take_succ_cons, List.take_zero, putAll, Act.put, List.setIfInBounds_toArray, List.set_cons_succ, List.set_cons_zero, Nat.zero_add, Nat.reduceAdd, h3] at hK ⊢
              rw [if_pos (show Region.wanted _ _ = true from rfl)]
              refine wp_append_empty w1 (.tmp 21) (.tmp 24) 33 rfl 3 i0 _ 1 8 Tryz.underlying33 HI.out HZ0.out HZ1.out HZ2.out rfl (by omega) g0 wr.heap.size hg0 hg1 hg2 (some ⟨b, off, none⟩ : Option Addr) (k' + 1) c _ rfl (HP.out.below hC) (fun u hu => HONE.out u (List.mem_of_mem_take hu)) (by unfold maxLen; omega) (by omega) ?_
              intro v' w2 hown2 hb2
              exact hK v' w2 (RK.below hb2 (by decide)) hown2
            · intro u w1 hC hd K hK
              simp only [List.take_succ_cons, List.take_zero, putAll, Act.put, List.setIfInBounds_toArray, List.set_cons_succ, List.set_cons_zero, Nat.zero_add, Nat.reduceAdd] at hK ⊢
              go_simp
              exact hK _ _ (RK.same (by decide)) rfl
            · intro u w1 hC hd K hK
              have h5 : u 5 = .int .i64 m := hd 5 rfl rfl
              simp only [List.take_succ_cons, List.take_zero, putAll, Act.put, List.setIfInBounds_toArray, List.set_cons_succ, List.set_cons_zero, Nat.zero_add, Nat.reduceAdd, h5] at hK ⊢
              go_simp
              exact hK _ _ (RK.below (below_alloc (Below.refl _ _) _) (by decide)) (OneAt.new _ _ _)
            · intro u w1 hC hd K hK
              have h4 : RowAt w1 wr.heap.size 3 1 (k' + 1) ((ls.map (Value.int .i64)).take ((k' + 1) * 1)) (u 4) := hd 4 rfl rfl
              obtain ⟨g1, hg0, hg1⟩ := hd 6 rfl rfl
              simp only [List.take_succ_cons, List.take_zero, putAll, Act.put, List.setIfInBounds_toArray, List.set_cons_succ, List.set_cons_zero, Nat.zero_add, Nat.reduceAdd] at hK ⊢
              rw [if_pos (show Region.wanted _ _ = true from rfl)]
              refine wp_append_own (.tmp 25) (.tmp 27) 33 rfl wr.heap.size 3 i0 _ 1 8 Tryz.underlying33 HI.out HZ0.out HZ1.out HZ2.out rfl (by omega) (u 4) (k' + 1) _ rfl h4 (some ⟨g1, 0, none⟩) 1 1 [.int .i64 m] hg0 (fun e => by cases e) (one_cells' hg1 rfl rfl) HXONE.out (by unfold maxLen; omega) (by omega) hC.size ?_
              intro v' w2 hr hg
              exact hK v' w2 (RK.grown hg (row_base h4)) hr
            · intro u w1 hC hd K hK
              simp only [List.take_succ_cons, List.take_zero, putAll, Act.put, List.setIfInBounds_toArray, List.set_cons_succ, List.set_cons_zero, Nat.zero_add, Nat.reduceAdd] at hK ⊢
              go_simp
              exact hK _ _ (RK.same (by decide)) rfl
            · intro u w1 hC hd K hK
              simp only [List.take_succ_cons, List.take_zero, putAll, Act.put, List.setIfInBounds_toArray, List.set_cons_succ, List.set_cons_zero, Nat.zero_add, Nat.reduceAdd] at hK ⊢
              go_simp
              exact hK _ _ (RK.same (by decide)) rfl
            · intro u w1 hC hd K hK
              have h8 : u 8 = .slice (some ⟨b, off, none⟩ : Option Addr) n c := hd 8 rfl rfl
              have h9 : u 9 = .int .i64 (k' + 1) := hd 9 rfl rfl
              simp only [List.take_succ_cons, List.take_zero, putAll, Act.put, List.setIfInBounds_toArray, List.set_cons_succ, List.set_cons_zero, Nat.zero_add, Nat.reduceAdd, h8, h9] at hK ⊢
              rw [if_pos (show Region.wanted _ _ = true from rfl)]
              exact wp_slice_from 33 (.tmp 29) (.tmp 30) rfl Tryz.underlying33 1 (fun _ => by kernel_rfl) (some ⟨b, off, none⟩ : Option Addr) n c (k' + 1) rfl rfl (by omega) (hK _ _ (RK.same (by decide)) rfl)
          · intro u wt hC hf
            have hfK : RowAt wt wr.heap.size 3 1 ((k' + 1) + 1) ((ls.map (Value.int .i64)).take ((k' + 1) * 1) ++ [.int .i64 m]) (u 7) := hf 7 (by decide) rfl
            have hfL : u 10 = .slice (if c = (k' + 1) then (some ⟨b, off, none⟩ : Option Addr) else (some ⟨b, off, none⟩ : Option Addr).map (·.add ((k' + 1) * 1))) (n - (k' + 1)) (c - (k' + 1)) := hf 10 (by decide) rfl
            simp only [List.take_succ_cons, List.take_zero, List.drop_succ_cons, List.drop_zero, putAll, Act.put, List.setIfInBounds_toArray, List.set_cons_succ, List.set_cons_zero, Nat.zero_add, Nat.reduceAdd, hfL]
            refine wpList_append_own2 rfl (.tmp 28) (.tmp 31) 33 rfl wr.heap.size 3 i0 _ 1 8 Tryz.underlying33 HI.out HZ0.out HZ1.out HZ2.out rfl (by omega) (u 7) ((k' + 1) + 1) _ rfl hfK _ (n - (k' + 1)) (c - (k' + 1)) _ rfl HND.out (HDR.out.below hC) (fun u hu => HONE.out u (List.mem_of_mem_drop hu)) (by unfold maxLen; omega) (by omega) hC.size ?_
            intro v9 w9 ho9 hg9
            have HO9 := Lib.hid ho9
            have HB9 := Lib.hid (show Below wr.heap.size wr w9 from RK.keep (i := 0) hC (RK.grown hg9 (row_base hfK)))
            clear ho9 hg9 hfK hfL hf hC
            have hrow : OwnI w9 w.heap.size v9 (ls.take ((k' + 1)) ++ m :: ls.drop ((k' + 1))) := by
              have h1 := HO9.out
              unfold OwnI
              rw [ins_len HN.out (by omega) m, List.map_append, List.map_cons, List.map_take, List.map_drop]
              have := World.ownsRow.mono h1 HB.out.size
              simpa using this
            rw [ins_sortZ HA.out HIA.out] at hrow
            have HR := Lib.hid hrow
            clear hrow HO9
            go_wp2
            all_goals go_ret
            all_goals exact ⟨_, rfl, HR.out, HB.out.trans (HB9.out.mono HB.out.size)⟩
    · obtain ⟨b, off, x', rfl, hx', x0⟩ := (H.out.below HB.out).at_ (show k' < n from by omega)
      obtain rfl : x' = x := by rw [hx'] at hx; exact Option.some.inj hx
      have HX := Lib.hid hx'
      have HLT := Lib.hid hlt
      have hk1 : (0 : Int) < (k' : Int) + 1 := by omega
      have hk2 : (k' : Int) < (n : Int) := by omega
      have hk3 : (0 : Int) ≤ (k' : Int) := by omega
      clear hx hx'
      go_wp2
      refine ⟨⟨k', by omega, by simp, fun j y hj hy => ?_, HB.out⟩, by dsimp only [intOf]; omega⟩
      by_cases e : j = k'
      · subst e
        rw [HX.out] at hy
        cases hy
        exact HLT.out
      · exact hall.out j y (by omega) hy
end Go.Proofs.YtojbddcbnnbklaaGreatDoor
namespace Go.Proofs.YtojbddcbnnbklaaGreatDoor
open Go.RowKit P43 Go.Sort
attribute [local go_sem] ByteArray.mk_append_mk ByteArray.extract_mk mk_index
attribute [local irreducible] wpQuiet

set_option maxRecDepth 100000 in
set_option maxHeartbeats 8000000 in
theorem refHold (A : Option Addr) (n c : Nat) (x : Om) (ls : List Om) (w : World) (h : OwsAt w A n ls) (hc : n ≤ c) (hn : n ≤ 100000) :
    Calls Tryz.prog 29 #[.slice A n c, .agg #[.int .i64 x.1.id, .slice x.2.1 x.2.2.1 x.2.2.2]] w fun e w' => ∃ v, e = .returned v ∧ (∃ k, InsAt (fun y : Om => y.1.id) ls x.1.id k ∧ OwnR w' w.heap.size tW v (ls.take k ++ x :: ls.drop k)) ∧ Below w.heap.size w w' := by
  have H := Lib.hid h
  have HN := Lib.hid h.len
  have hlenW : (Tryz.prog.info? tW).map (·.size) = some 2 := by kernel_rfl
  obtain ⟨i0, hi0, hz0, hz1, hz2⟩ := info_parts infoW
  have HI := Lib.hid hi0
  have HZ0 := Lib.hid hz0
  have HZ1 := Lib.hid hz1
  have HZ2 := Lib.hid hz2
  have HONE := Lib.hid (rcs_one ls)
  have HXONE := Lib.hid (rc_one x)
  clear h hi0 hz0 hz1 hz2
  go_enter Tryz.func29, Tryz.ntmps29
  go_wp2
  obtain ⟨w2, q, e1, e2, hb2, hq2⟩ := boxes1 w tW (ra x)
  unfold ra at e1
  rw [e1, e2]
  have HB2 := Lib.hid hb2
  have HQ2 := Lib.hid hq2
  clear e1 e2 hb2 hq2
  go_loopw [5] (fun kv wr => ∃ k : Nat, k ≤ n ∧ kv = .int .i64 k ∧ Hid (∀ (j : Nat) (y : Om), k ≤ j → ls[j]? = some y → x.1.id < y.1.id) ∧ Blk wr q tW (ra x) ∧ Below w.heap.size w wr) (fun kv _ => (intOf kv).toNat)
  case atStart => exact ⟨n, Nat.le_refl _, rfl, fun j y hj hx => absurd (List.getElem?_eq_some_iff.1 hx).1 (by rw [HN.out]; omega), HQ2.out, HB2.out⟩
  case round =>
    obtain ⟨k, hk, rfl, hall, hq, hb⟩ := hrel
    have HB := Lib.hid hb
    have HQ := Lib.hid hq
    have z0 := hq.cell 0
    have hsz := hb.size
    simp [ra] at z0
    clear hb hq
    cases k with
    | zero =>
      have HIA := Lib.hid (show InsAt (fun y : Om => y.1.id) ls x.1.id 0 from ⟨Nat.zero_le _, hall.out, .inl rfl⟩)
      go_upto_region 2 with (fail)
      go_quiet (fail)
      have HBD := Lib.hid (below_drewN (Below.refl wr.heap.size wr) nq)
      have HB6 := Lib.hid (HB.out.trans (HBD.out.mono hsz))
      have HQ6 := Lib.hid (HQ.out.drewN nq)
      generalize wr.drewN nq = w6 at HB6 HQ6 HBD ⊢
      clear z0
      go_upto_region 4 with (fail)
      have HSL := Lib.hid (H.out.below HB6.out)
      have HP := Lib.hid (show CellsAt w6 A 0 2 ((rcs ls).take (0 * 2)) from HSL.out.pre (by omega))
      have HDR := Lib.hid (HSL.out.cut (k := 0) (c := c) (by omega) (by omega))
      have HND := Lib.hid (HDR.out.none_ (by omega))
      refine wp_region_kill 8 11 (by kernel_rfl) (by kernel_rfl) (fun i => match i with | 0 => some 7 | 4 => some 7 | 6 => some 7 | _ => none) (RK w6.heap.size 7) (fun w1 => Below w6.heap.size w6 w1)
        (fun i v w1 => match i with
          | 0 => EmptyAt w1 w6.heap.size tW v
          | 1 => v = .slice A n c
          | 2 => v = .int .i64 0
          | 3 => v = .slice A 0 c
          | 4 => RowAt w1 w6.heap.size tW 2 0 ((rcs ls).take (0 * 2)) v
          | 5 => v = .agg (ra x)
          | 6 => OneAt w1 tW (ra x) v
          | 7 => RowAt w1 w6.heap.size tW 2 (0 + 1) ((rcs ls).take (0 * 2) ++ (rc x)) v
          | 8 => v = .slice A n c
          | 9 => v = .int .i64 0
          | 10 => v = .slice (if c = 0 then A else A.map (·.add (0 * 2))) (n - 0) (c - 0)
          | _ => True) (fun _ _ _ h1 h2 => RK.keep h1 h2) ?_ ((Below.refl _ _).drew) ?_ ?_
      · intro kk ii vv w1 w2 hik hk hf hR
        match ii, hik, hk, hf with
        | 0, _, hk, hf => exact EmptyAt.below hf (RK.at_ hR (fun e => hk (by subst e; rfl)))
        | 1, _, _, hf => exact hf
        | 2, _, _, hf => exact hf
        | 3, _, _, hf => exact hf
        | 4, _, hk, hf => exact RowAt.below hf (RK.at_ hR (fun e => hk (by subst e; rfl)))
        | 5, _, _, hf => exact hf
        | 6, _, hk, hf => exact OneAt.below hf (RK.at_ hR (fun e => hk (by subst e; rfl)))
        | 7, hik, _, hf => exact RowAt.below hf (RK.at_ hR (Ne.symm hik))
        | 8, _, _, hf => exact hf
        | 9, _, _, hf => exact hf
        | 10, _, _, hf => exact hf
        | n + 11, _, _, _ => trivial
      · refine allOps_cons ?_ (allOps_cons ?_ (allOps_cons ?_ (allOps_cons ?_ (allOps_cons ?_ (allOps_cons ?_ (allOps_cons ?_ (allOps_cons ?_ (allOps_cons ?_ (allOps_cons ?_ (allOps_cons ?_ allOps_nil))))))))))
        · intro u w1 hC hd K hK
          simp only [List.take_succ_cons, List.take_zero, putAll, Act.put, List.setIfInBounds_toArray, List.set_cons_succ, List.set_cons_zero, Nat.zero_add, Nat.reduceAdd] at hK ⊢
          go_simp
          exact hK _ _ (RK.below (below_alloc (Below.refl _ _) _) (by decide)) (EmptyAt.new _ _ hC.size)
        · intro u w1 hC hd K hK
          simp only [List.take_succ_cons, List.take_zero, putAll, Act.put, List.setIfInBounds_toArray, List.set_cons_succ, List.set_cons_zero, Nat.zero_add, Nat.reduceAdd] at hK ⊢
          go_simp
          exact hK _ _ (RK.same (by decide)) rfl
        · intro u w1 hC hd K hK
          simp only [List.take_succ_cons, List.take_zero, putAll, Act.put, List.setIfInBounds_toArray, List.set_cons_succ, List.set_cons_zero, Nat.zero_add, Nat.reduceAdd] at hK ⊢
          go_simp
          exact hK _ _ (RK.same (by decide)) rfl
        · intro u w1 hC hd K hK
          have h1 : u 1 = .slice A n c := hd 1 rfl rfl
          have h2 : u 2 = .int .i64 0 := hd 2 rfl rfl
          simp only [List.take_succ_cons, List.take_zero, putAll, Act.put, List.setIfInBounds_toArray, List.set_cons_succ, List.set_cons_zero, Nat.zero_add, Nat.reduceAdd, h1, h2] at hK ⊢
          rw [if_pos (show Region.wanted _ _ = true from rfl)]
          exact wp_slice_to 27 (.tmp 24) (.tmp 25) rfl Tryz.underlying27 2 (fun _ => by kernel_rfl) A n c 0 rfl rfl (by omega) (hK _ _ (RK.same (by decide)) rfl)
        · intro u w1 hC hd K hK
          have h3 : u 3 = .slice A 0 c := hd 3 rfl rfl
          obtain ⟨g0, hg0, hg1, hg2⟩ := hd 0 rfl rfl
          simp only [List.take_succ_cons, List.take_zero, putAll, Act.put, List.setIfInBounds_toArray, List.set_cons_succ, List.set_cons_zero, Nat.zero_add, Nat.reduceAdd, h3] at hK ⊢
          rw [if_pos (show Region.wanted _ _ = true from rfl)]
          refine wp_append_empty w1 (.tmp 23) (.tmp 26) 27 rfl tW i0 _ 2 32 Tryz.underlying27 HI.out HZ0.out HZ1.out HZ2.out rfl (by omega) g0 w6.heap.size hg0 hg1 hg2 A 0 c _ rfl (HP.out.below hC) (fun u hu => HONE.out u (List.mem_of_mem_take hu)) (by unfold maxLen; omega) (by omega) ?_
          intro v' w2 hown2 hb2
          exact hK v' w2 (RK.below hb2 (by decide)) hown2
        · intro u w1 hC hd K hK
          simp only [List.take_succ_cons, List.take_zero, putAll, Act.put, List.setIfInBounds_toArray, List.set_cons_succ, List.set_cons_zero, Nat.zero_add, Nat.reduceAdd] at hK ⊢
          rw [if_pos (show Region.wanted _ _ = true from rfl)]
          exact wp_load_cells tW (.tmp 3) rfl ⟨q, 0, none⟩ rfl (ra x) _ ((HQ6.out.below hC).add) Tryz.underlying68 rfl hlenW (hK _ _ (RK.same (by decide)) rfl)
        · intro u w1 hC hd K hK
          have h5 : u 5 = .agg (ra x) := hd 5 rfl rfl
          simp only [List.take_succ_cons, List.take_zero, putAll, Act.put, List.setIfInBounds_toArray, List.set_cons_succ, List.set_cons_zero, Nat.zero_add, Nat.reduceAdd, h5] at hK ⊢
          go_simp
          exact hK _ _ (RK.below (below_alloc (Below.refl _ _) _) (by decide)) (OneAt.new _ _ _)
        · intro u w1 hC hd K hK
          have h4 : RowAt w1 w6.heap.size tW 2 0 ((rcs ls).take (0 * 2)) (u 4) := hd 4 rfl rfl
          obtain ⟨g1, hg0, hg1⟩ := hd 6 rfl rfl
          simp only [List.take_succ_cons, List.take_zero, putAll, Act.put, List.setIfInBounds_toArray, List.set_cons_succ, List.set_cons_zero, Nat.zero_add, Nat.reduceAdd] at hK ⊢
          rw [if_pos (show Region.wanted _ _ = true from rfl)]
          refine wp_append_own (.tmp 27) (.tmp 29) 27 rfl w6.heap.size tW i0 _ 2 32 Tryz.underlying27 HI.out HZ0.out HZ1.out HZ2.out rfl (by omega) (u 4) 0 _ rfl h4 (some ⟨g1, 0, none⟩) 1 1 (rc x) hg0 (fun e => by cases e) (one_cells' hg1 rfl rfl) HXONE.out (by unfold maxLen; omega) (by omega) hC.size ?_
          intro v' w2 hr hg
          exact hK v' w2 (RK.grown hg (row_base h4)) hr
        · intro u w1 hC hd K hK
          simp only [List.take_succ_cons, List.take_zero, putAll, Act.put, List.setIfInBounds_toArray, List.set_cons_succ, List.set_cons_zero, Nat.zero_add, Nat.reduceAdd] at hK ⊢
          go_simp
          exact hK _ _ (RK.same (by decide)) rfl
        · intro u w1 hC hd K hK
          simp only [List.take_succ_cons, List.take_zero, putAll, Act.put, List.setIfInBounds_toArray, List.set_cons_succ, List.set_cons_zero, Nat.zero_add, Nat.reduceAdd] at hK ⊢
          go_simp
          exact hK _ _ (RK.same (by decide)) rfl
        · intro u w1 hC hd K hK
          have h8 : u 8 = .slice A n c := hd 8 rfl rfl
          have h9 : u 9 = .int .i64 0 := hd 9 rfl rfl
          simp only [List.take_succ_cons, List.take_zero, putAll, Act.put, List.setIfInBounds_toArray, List.set_cons_succ, List.set_cons_zero, Nat.zero_add, Nat.reduceAdd, h8, h9] at hK ⊢
          rw [if_pos (show Region.wanted _ _ = true from rfl)]
          exact wp_slice_from 27 (.tmp 31) (.tmp 32) rfl Tryz.underlying27 2 (fun _ => by kernel_rfl) A n c 0 rfl rfl (by omega) (hK _ _ (RK.same (by decide)) rfl)
      · intro u wt hC hf
        have hfK : RowAt wt w6.heap.size tW 2 (0 + 1) ((rcs ls).take (0 * 2) ++ (rc x)) (u 7) := hf 7 (by decide) rfl
        have hfL : u 10 = .slice (if c = 0 then A else A.map (·.add (0 * 2))) (n - 0) (c - 0) := hf 10 (by decide) rfl
        simp only [List.take_succ_cons, List.take_zero, List.drop_succ_cons, List.drop_zero, putAll, Act.put, List.setIfInBounds_toArray, List.set_cons_succ, List.set_cons_zero, Nat.zero_add, Nat.reduceAdd, hfL]
        refine wpList_append_own2 rfl (.tmp 30) (.tmp 33) 27 rfl w6.heap.size tW i0 _ 2 32 Tryz.underlying27 HI.out HZ0.out HZ1.out HZ2.out rfl (by omega) (u 7) (0 + 1) _ rfl hfK _ (n - 0) (c - 0) _ rfl HND.out (HDR.out.below hC) (fun u hu => HONE.out u (List.mem_of_mem_drop hu)) (by unfold maxLen; omega) (by omega) hC.size ?_
        intro v9 w9 ho9 hg9
        have HO9 := Lib.hid ho9
        have HB9 := Lib.hid (show Below w6.heap.size w6 w9 from RK.keep (i := 0) hC (RK.grown hg9 (row_base hfK)))
        clear ho9 hg9 hfK hfL hf hC
        have hrow : OwnR w9 w.heap.size tW v9 (ls.take (0) ++ x :: ls.drop (0)) := by
          have h1 := HO9.out
          unfold OwnR
          rw [ins_len HN.out (by omega) x, rcs_append, rcs_cons]
          have := World.ownsRow.mono h1 HB6.out.size
          rw [take_mul, drop_mul] at this
          simpa using this
        have HR := Lib.hid hrow
        clear hrow HO9
        go_wp2
        all_goals go_ret
        all_goals exact ⟨_, rfl, ⟨_, HIA.out, HR.out⟩, HB6.out.trans (HB9.out.mono HB6.out.size)⟩
    | succ k' =>
      obtain ⟨b, off, y, rfl, hy, x0, -⟩ := (H.out.below HB.out).at_ (show k' < n from by omega)
      have hk1 : (0 : Int) < (k' : Int) + 1 := by omega
      have hk2 : (k' : Int) < (n : Int) := by omega
      have hk3 : (0 : Int) ≤ (k' : Int) := by omega
      by_cases hlt : x.1.id < y.1.id
      · have hd : decide (x.1.id < y.1.id) = true := decide_eq_true hlt
        have HY := Lib.hid hy
        have HLT := Lib.hid hlt
        clear hy
        go_upto_region 2 with (fail)
        go_quiet (fail)
        have HB6 := Lib.hid (HB.out.trans ((below_drewN (Below.refl wr.heap.size wr) nq).mono hsz))
        have HQ6 := Lib.hid (HQ.out.drewN nq)
        generalize wr.drewN nq = w6 at HB6 HQ6 ⊢
        clear z0 x0
        go_wp2
        go_roundw
        case rel =>
          refine ⟨k', by omega, by simp, fun j z hj hz => ?_, HQ6.out, HB6.out⟩
          by_cases e : j = k'
          · subst e
            rw [HY.out] at hz
            cases hz
            exact HLT.out
          · exact hall.out j z (by omega) hz
        case measure => dsimp only [intOf]; omega
      · have hd : decide (x.1.id < y.1.id) = false := decide_eq_false hlt
        have HIA := Lib.hid (show InsAt (fun y : Om => y.1.id) ls x.1.id (k' + 1) from ⟨by rw [HN.out]; exact hk, hall.out, .inr ⟨y, hy, by show y.1.id ≤ x.1.id; omega⟩⟩)
        clear hy hlt
        go_upto_region 2 with (fail)
        go_quiet (fail)
        have HBD := Lib.hid (below_drewN (Below.refl wr.heap.size wr) nq)
        have HB6 := Lib.hid (HB.out.trans (HBD.out.mono hsz))
        have HQ6 := Lib.hid (HQ.out.drewN nq)
        generalize wr.drewN nq = w6 at HB6 HQ6 HBD ⊢
        clear z0 x0
        go_upto_region 4 with (fail)
        have HSL := Lib.hid (H.out.below HB6.out)
        have HP := Lib.hid (show CellsAt w6 (some ⟨b, off, none⟩ : Option Addr) (k' + 1) 2 ((rcs ls).take ((k' + 1) * 2)) from HSL.out.pre (by omega))
        have HDR := Lib.hid (HSL.out.cut (k := (k' + 1)) (c := c) (by omega) (by omega))
        have HND := Lib.hid (HDR.out.none_ (by omega))
        refine wp_region_kill 8 11 (by kernel_rfl) (by kernel_rfl) (fun i => match i with | 0 => some 7 | 4 => some 7 | 6 => some 7 | _ => none) (RK w6.heap.size 7) (fun w1 => Below w6.heap.size w6 w1)
          (fun i v w1 => match i with
            | 0 => EmptyAt w1 w6.heap.size tW v
            | 1 => v = .slice (some ⟨b, off, none⟩ : Option Addr) n c
            | 2 => v = .int .i64 (k' + 1)
            | 3 => v = .slice (some ⟨b, off, none⟩ : Option Addr) (k' + 1) c
            | 4 => RowAt w1 w6.heap.size tW 2 (k' + 1) ((rcs ls).take ((k' + 1) * 2)) v
            | 5 => v = .agg (ra x)
            | 6 => OneAt w1 tW (ra x) v
            | 7 => RowAt w1 w6.heap.size tW 2 ((k' + 1) + 1) ((rcs ls).take ((k' + 1) * 2) ++ (rc x)) v
            | 8 => v = .slice (some ⟨b, off, none⟩ : Option Addr) n c
            | 9 => v = .int .i64 (k' + 1)
            | 10 => v = .slice (if c = (k' + 1) then (some ⟨b, off, none⟩ : Option Addr) else (some ⟨b, off, none⟩ : Option Addr).map (·.add ((k' + 1) * 2))) (n - (k' + 1)) (c - (k' + 1))
            | _ => True) (fun _ _ _ h1 h2 => RK.keep h1 h2) ?_ ((Below.refl _ _).drew) ?_ ?_
        · intro kk ii vv w1 w2 hik hk hf hR
          match ii, hik, hk, hf with
          | 0, _, hk, hf => exact EmptyAt.below hf (RK.at_ hR (fun e => hk (by subst e; rfl)))
          | 1, _, _, hf => exact hf
          | 2, _, _, hf => exact hf
          | 3, _, _, hf => exact hf
          | 4, _, hk, hf => exact RowAt.below hf (RK.at_ hR (fun e => hk (by subst e; rfl)))
          | 5, _, _, hf => exact hf
          | 6, _, hk, hf => exact OneAt.below hf (RK.at_ hR (fun e => hk (by subst e; rfl)))
          | 7, hik, _, hf => exact RowAt.below hf (RK.at_ hR (Ne.symm hik))
          | 8, _, _, hf => exact hf
          | 9, _, _, hf => exact hf
          | 10, _, _, hf => exact hf
          | n + 11, _, _, _ => trivial
        · refine allOps_cons ?_ (allOps_cons ?_ (allOps_cons ?_ (allOps_cons ?_ (allOps_cons ?_ (allOps_cons ?_ (allOps_cons ?_ (allOps_cons ?_ (allOps_cons ?_ (allOps_cons ?_ (allOps_cons ?_ allOps_nil))))))))))
          · intro u w1 hC hd K hK
            simp only [List.take_succ_cons, List.take_zero, putAll, Act.put, List.setIfInBounds_toArray, List.set_cons_succ, List.set_cons_zero, Nat.zero_add, Nat.reduceAdd] at hK ⊢
            go_simp
            exact hK _ _ (RK.below (below_alloc (Below.refl _ _) _) (by decide)) (EmptyAt.new _ _ hC.size)
          · intro u w1 hC hd K hK
            simp only [List.take_succ_cons, List.take_zero, putAll, Act.put, List.setIfInBounds_toArray, List.set_cons_succ, List.set_cons_zero, Nat.zero_add, Nat.reduceAdd] at hK ⊢
            go_simp
            exact hK _ _ (RK.same (by decide)) rfl
          · intro u w1 hC hd K hK
            simp only [List.take_succ_cons, List.take_zero, putAll, Act.put, List.setIfInBounds_toArray, List.set_cons_succ, List.set_cons_zero, Nat.zero_add, Nat.reduceAdd] at hK ⊢
            go_simp
            exact hK _ _ (RK.same (by decide)) rfl
          · intro u w1 hC hd K hK
            have h1 : u 1 = .slice (some ⟨b, off, none⟩ : Option Addr) n c := hd 1 rfl rfl
            have h2 : u 2 = .int .i64 (k' + 1) := hd 2 rfl rfl
            simp only [List.take_succ_cons, List.take_zero, putAll, Act.put, List.setIfInBounds_toArray, List.set_cons_succ, List.set_cons_zero, Nat.zero_add, Nat.reduceAdd, h1, h2] at hK ⊢
            rw [if_pos (show Region.wanted _ _ = true from rfl)]
            exact wp_slice_to 27 (.tmp 24) (.tmp 25) rfl Tryz.underlying27 2 (fun _ => by kernel_rfl) (some ⟨b, off, none⟩ : Option Addr) n c (k' + 1) rfl rfl (by omega) (hK _ _ (RK.same (by decide)) rfl)
          · intro u w1 hC hd K hK
            have h3 : u 3 = .slice (some ⟨b, off, none⟩ : Option Addr) (k' + 1) c := hd 3 rfl rfl
            obtain ⟨g0, hg0, hg1, hg2⟩ := hd 0 rfl rfl
            simp only [List.take_succ_cons, List.take_zero, putAll, Act.put, List.setIfInBounds_toArray, List.set_cons_succ, List.set_cons_zero, Nat.zero_add, Nat.reduceAdd, h3] at hK ⊢
            rw [if_pos (show Region.wanted _ _ = true from rfl)]
            refine wp_append_empty w1 (.tmp 23) (.tmp 26) 27 rfl tW i0 _ 2 32 Tryz.underlying27 HI.out HZ0.out HZ1.out HZ2.out rfl (by omega) g0 w6.heap.size hg0 hg1 hg2 (some ⟨b, off, none⟩ : Option Addr) (k' + 1) c _ rfl (HP.out.below hC) (fun u hu => HONE.out u (List.mem_of_mem_take hu)) (by unfold maxLen; omega) (by omega) ?_
            intro v' w2 hown2 hb2
            exact hK v' w2 (RK.below hb2 (by decide)) hown2
          · intro u w1 hC hd K hK
            simp only [List.take_succ_cons, List.take_zero, putAll, Act.put, List.setIfInBounds_toArray, List.set_cons_succ, List.set_cons_zero, Nat.zero_add, Nat.reduceAdd] at hK ⊢
            rw [if_pos (show Region.wanted _ _ = true from rfl)]
            exact wp_load_cells tW (.tmp 3) rfl ⟨q, 0, none⟩ rfl (ra x) _ ((HQ6.out.below hC).add) Tryz.underlying68 rfl hlenW (hK _ _ (RK.same (by decide)) rfl)
          · intro u w1 hC hd K hK
            have h5 : u 5 = .agg (ra x) := hd 5 rfl rfl
            simp only [List.take_succ_cons, List.take_zero, putAll, Act.put, List.setIfInBounds_toArray, List.set_cons_succ, List.set_cons_zero, Nat.zero_add, Nat.reduceAdd, h5] at hK ⊢
            go_simp
            exact hK _ _ (RK.below (below_alloc (Below.refl _ _) _) (by decide)) (OneAt.new _ _ _)
          · intro u w1 hC hd K hK
            have h4 : RowAt w1 w6.heap.size tW 2 (k' + 1) ((rcs ls).take ((k' + 1) * 2)) (u 4) := hd 4 rfl rfl
            obtain ⟨g1, hg0, hg1⟩ := hd 6 rfl rfl
            simp only [List.take_succ_cons, List.take_zero, putAll, Act.put, List.setIfInBounds_toArray, List.set_cons_succ, List.set_cons_zero, Nat.zero_add, Nat.reduceAdd] at hK ⊢
            rw [if_pos (show Region.wanted _ _ = true from rfl)]
            refine wp_append_own (.tmp 27) (.tmp 29) 27 rfl w6.heap.size tW i0 _ 2 32 Tryz.underlying27 HI.out HZ0.out HZ1.out HZ2.out rfl (by omega) (u 4) (k' + 1) _ rfl h4 (some ⟨g1, 0, none⟩) 1 1 (rc x) hg0 (fun e => by cases e) (one_cells' hg1 rfl rfl) HXONE.out (by unfold maxLen; omega) (by omega) hC.size ?_
            intro v' w2 hr hg
            exact hK v' w2 (RK.grown hg (row_base h4)) hr
          · intro u w1 hC hd K hK
            simp only [List.take_succ_cons, List.take_zero, putAll, Act.put, List.setIfInBounds_toArray, List.set_cons_succ, List.set_cons_zero, Nat.zero_add, Nat.reduceAdd] at hK ⊢
            go_simp
            exact hK _ _ (RK.same (by decide)) rfl
          · intro u w1 hC hd K hK
            simp only [List.take_succ_cons, List.take_zero, putAll, Act.put, List.setIfInBounds_toArray, List.set_cons_succ, List.set_cons_zero, Nat.zero_add, Nat.reduceAdd] at hK ⊢
            go_simp
            exact hK _ _ (RK.same (by decide)) rfl
          · intro u w1 hC hd K hK
            have h8 : u 8 = .slice (some ⟨b, off, none⟩ : Option Addr) n c := hd 8 rfl rfl
            have h9 : u 9 = .int .i64 (k' + 1) := hd 9 rfl rfl
            simp only [List.take_succ_cons, List.take_zero, putAll, Act.put, List.setIfInBounds_toArray, List.set_cons_succ, List.set_cons_zero, Nat.zero_add, Nat.reduceAdd, h8, h9] at hK ⊢
            rw [if_pos (show Region.wanted _ _ = true from rfl)]
            exact wp_slice_from 27 (.tmp 31) (.tmp 32) rfl Tryz.underlying27 2 (fun _ => by kernel_rfl) (some ⟨b, off, none⟩ : Option Addr) n c (k' + 1) rfl rfl (by omega) (hK _ _ (RK.same (by decide)) rfl)
        · intro u wt hC hf
          have hfK : RowAt wt w6.heap.size tW 2 ((k' + 1) + 1) ((rcs ls).take ((k' + 1) * 2) ++ (rc x)) (u 7) := hf 7 (by decide) rfl
          have hfL : u 10 = .slice (if c = (k' + 1) then (some ⟨b, off, none⟩ : Option Addr) else (some ⟨b, off, none⟩ : Option Addr).map (·.add ((k' + 1) * 2))) (n - (k' + 1)) (c - (k' + 1)) := hf 10 (by decide) rfl
          simp only [List.take_succ_cons, List.take_zero, List.drop_succ_cons, List.drop_zero, putAll, Act.put, List.setIfInBounds_toArray, List.set_cons_succ, List.set_cons_zero, Nat.zero_add, Nat.reduceAdd, hfL]
          refine wpList_append_own2 rfl (.tmp 30) (.tmp 33) 27 rfl w6.heap.size tW i0 _ 2 32 Tryz.underlying27 HI.out HZ0.out HZ1.out HZ2.out rfl (by omega) (u 7) ((k' + 1) + 1) _ rfl hfK _ (n - (k' + 1)) (c - (k' + 1)) _ rfl HND.out (HDR.out.below hC) (fun u hu => HONE.out u (List.mem_of_mem_drop hu)) (by unfold maxLen; omega) (by omega) hC.size ?_
          intro v9 w9 ho9 hg9
          have HO9 := Lib.hid ho9
          have HB9 := Lib.hid (show Below w6.heap.size w6 w9 from RK.keep (i := 0) hC (RK.grown hg9 (row_base hfK)))
          clear ho9 hg9 hfK hfL hf hC
          have hrow : OwnR w9 w.heap.size tW v9 (ls.take ((k' + 1)) ++ x :: ls.drop ((k' + 1))) := by
            have h1 := HO9.out
            unfold OwnR
            rw [ins_len HN.out (by omega) x, rcs_append, rcs_cons]
            have := World.ownsRow.mono h1 HB6.out.size
            rw [take_mul, drop_mul] at this
            simpa using this
          have HR := Lib.hid hrow
          clear hrow HO9
          go_wp2
          all_goals go_ret
          all_goals exact ⟨_, rfl, ⟨_, HIA.out, HR.out⟩, HB6.out.trans (HB9.out.mono HB6.out.size)⟩
end Go.Proofs.YtojbddcbnnbklaaGreatDoor
namespace Go.Proofs.YtojbddcbnnbklaaGreatDoor
open Go.RowKit P43
attribute [local go_sem] ByteArray.mk_append_mk ByteArray.extract_mk mk_index

theorem idsR_app (a b : List Om) : idsR (a ++ b) = idsR a ++ idsR b := List.map_append
theorem idsR_fst (l : List Om) : idsR l = ids (l.map (·.1)) := by
  unfold idsR ids
  rw [List.map_map]
  rfl
/-- The owners whose wishes conflict with one. -/
def blkR (l : List Om) (wish : List (Nm × Bool)) : List Om := l.filter fun x => confL x.1.ns wish
theorem blkR_ids (l : List Om) (c : Cl) : idsR (blkR l c.ns) = ids (blk (l.map (·.1)) c) := by
  rw [idsR_fst]
  congr 1
  unfold blkR blk
  rw [List.filter_map]
  rfl
theorem blkR_take {l : List Om} {k : Nat} {x : Om} {q : List (Nm × Bool)} (h : l[k]? = some x) : blkR (l.take (k + 1)) q = if confL x.1.ns q = true then blkR (l.take k) q ++ [x] else blkR (l.take k) q := filter_take h
set_option maxRecDepth 100000 in
set_option maxHeartbeats 4000000 in
theorem refBlocked (A A2 : Option Addr) (n c n2 c2 : Nat) (ls : List Om) (q : List (Nm × Bool)) (w : World) (h : OwsAt w A n ls) (hW : ∀ x ∈ ls, WishAt w x) (h2 : NlsAt w A2 n2 q) (hn : n ≤ 100000) (hn2 : n2 ≤ 1000) :
    Calls Tryz.prog 28 #[.slice A n c, .slice A2 n2 c2] w fun e w' => ∃ v, e = .returned v ∧ OwnI w' w.heap.size v (sortZ (idsR (blkR ls q))) ∧ Below w.heap.size w w' := by
  have H := Lib.hid h
  have HN := Lib.hid h.len
  have HW := Lib.hid hW
  have H2 := Lib.hid h2
  clear h hW h2
  go_enter Tryz.func28, Tryz.ntmps28
  go_wp2
  obtain ⟨w2, q2, e1, e2, hb2, hq2⟩ := boxes1 w 3 #[]
  rw [e1, e2]
  have HB2 := Lib.hid hb2
  have HO2 := Lib.hid (OwnI.empty (B := w.heap.size) (by omega) hq2)
  clear e1 e2 hb2 hq2
  go_loopw [5, 6] (fun ov iv wr => ∃ k : Nat, k ≤ n ∧ iv = .int .i64 k ∧ OwnI wr w.heap.size ov (sortZ (idsR (blkR (ls.take k) q))) ∧ Below w.heap.size w wr) (fun _ iv _ => n - (intOf iv).toNat)
  case atStart => exact ⟨0, Nat.zero_le _, rfl, by rw [show sortZ (idsR (blkR (ls.take 0) q)) = [] from by simp [blkR, idsR, sortZ]]; exact HO2.out, HB2.out⟩
  case round =>
    obtain ⟨k, hk, rfl, ho, hb⟩ := hrel
    have HO := Lib.hid ho
    have HB := Lib.hid hb
    have hsz := hb.size
    clear ho hb
    by_cases hlt : k < n
    · obtain ⟨b, off, x, rfl, hx, x0, x1⟩ := (OwsAt.below H.out HB.out).at_ hlt
      have HX := Lib.hid (blkR_take (q := q) hx)
      have HWX := Lib.hid ((HW.out x (List.mem_of_getElem? hx)).below HB.out)
      have hxn := HWX.out.2
      have HLK := Lib.hid (show (sortZ (idsR (blkR (ls.take k) q))).length ≤ 100000 from by
        have h1 := List.length_take_le k ls
        have h2 := List.length_filter_le (fun x : Om => confL x.1.ns q) (ls.take k)
        rw [len_sortZ]
        unfold idsR blkR
        rw [List.length_map]
        omega)
      have hk1 : (k : Int) < (n : Int) := by omega
      have hk2 : (0 : Int) ≤ (k : Int) := by omega
      clear hx
      cases hF : confL x.1.ns q with
      | false =>
        have HF := Lib.hid hF
        clear hF
        go_wp2_with (go_at_call 44; refine (refConf x.2.1 A2 x.2.2.1 x.2.2.2 n2 c2 x.1.ns q _ HWX.out.1 (H2.out.below HB.out) (by omega) (by omega)).mono ?_; rintro e w3 ⟨rfl, hb3⟩; rw [HF.out]; have HB3 := Lib.hid (HB.out.trans (hb3.mono hsz)); have HO3 := Lib.hid (HO.out.below hb3); clear hb3)
        exact ⟨⟨k + 1, hlt, by simp, by rw [HX.out, if_neg (by rw [HF.out]; simp)]; exact HO3.out, HB3.out⟩, by dsimp only [intOf]; omega⟩
      | true =>
        have HF := Lib.hid hF
        clear hF
        obtain ⟨zs, hzs⟩ : ∃ zs, sortZ (idsR (blkR (ls.take k) q)) = zs := ⟨_, rfl⟩
        have HZS := Lib.hid hzs
        have hlk := HLK.out
        rw [hzs] at hlk HO
        have HASC := Lib.hid (show zs.Pairwise (· ≤ ·) from by rw [← hzs]; exact sortZ_asc _)
        obtain ⟨A3, c3, rfl, hz3, hc3⟩ := HO.out.zcells
        obtain ⟨m, hm⟩ : ∃ m, zs.length = m := ⟨_, rfl⟩
        rw [hm] at hz3 hc3 hlk ⊢
        have HZ3 := Lib.hid hz3
        clear hzs hm hz3 HLK
        go_wp2_with (first | (go_at_call 44; refine (refConf x.2.1 A2 x.2.2.1 x.2.2.2 n2 c2 x.1.ns q _ HWX.out.1 (H2.out.below HB.out) (by omega) (by omega)).mono ?_; rintro e w3 ⟨rfl, hb3⟩; rw [HF.out]; have HB3 := Lib.hid (HB.out.trans (hb3.mono hsz)); have y0 := (hb3.cell (p := ⟨b, off + k * 2, none⟩) (World.block_lt_of_cell? wr _ x0)).trans x0; have HZ4 := Lib.hid (HZ3.out.below hb3); clear hb3) | (go_at_call 33; refine (refAdd A3 m c3 x.1.id zs _ HZ4.out hc3 hlk HASC.out).mono ?_; rintro e w4 ⟨v4, rfl, ho4, hb4⟩; have HO4 := Lib.hid (ho4.base HB3.out.size); have HB4 := Lib.hid (HB3.out.trans (hb4.mono HB3.out.size)); clear ho4 hb4))
        refine ⟨⟨k + 1, hlt, by simp, ?_, HB4.out⟩, by dsimp only [intOf]; omega⟩
        rw [HX.out, if_pos HF.out, idsR_app]
        have := HO4.out
        rw [← HZS.out, sortZ_snoc] at this
        exact this
    · have hkn : k = n := by omega
      have hk1 : ¬ (k : Int) < (n : Int) := by omega
      go_wp2
      go_ret
      have h := HO.out
      rw [hkn, ← HN.out, List.take_length] at h
      exact ⟨_, rfl, h, HB.out⟩
end Go.Proofs.YtojbddcbnnbklaaGreatDoor
namespace Go.Proofs.YtojbddcbnnbklaaGreatDoor
open Go.RowKit P43
attribute [local go_sem] ByteArray.mk_append_mk ByteArray.extract_mk mk_index

abbrev tTb : TypeId := 29
set_option maxRecDepth 100000 in
set_option maxHeartbeats 4000000 in
theorem refOwners (Ah Aw : Option Addr) (nh ch nw cw : Nat) (hs ws : List Om) (w : World) (h : OwsAt w Ah nh hs) (h2 : OwsAt w Aw nw ws) (hn : nh + nw ≤ 100000) :
    Calls Tryz.prog 15 #[.agg #[.slice Ah nh ch, .slice Aw nw cw]] w fun e w' => ∃ v, e = .returned v ∧ OwnI w' w.heap.size v (sortZ (idsR (hs ++ ws))) ∧ Below w.heap.size w w' := by
  have H := Lib.hid h
  have HN := Lib.hid h.len
  have H2 := Lib.hid h2
  have HN2 := Lib.hid h2.len
  clear h h2
  go_enter Tryz.func15, Tryz.ntmps15
  go_wp2
  obtain ⟨w2, q1, q2, e1, e2, e3, hb2, hq1, hq2⟩ : ∃ (w2 : World) (q1 q2 : Nat), (w.alloc (.cells #[.slice Ah nh ch, .slice Aw nw cw] tTb)).alloc (.cells #[] 3) = w2 ∧ w.heap.size = q1 ∧ w.heap.size + 1 = q2 ∧ Below w.heap.size w w2 ∧ Blk w2 q1 tTb #[.slice Ah nh ch, .slice Aw nw cw] ∧ Blk w2 q2 3 #[] :=
    ⟨_, _, _, rfl, rfl, rfl, below_alloc (below_alloc (Below.refl _ _) _) _, (Blk.new w _ _).alloc _, by
      have := Blk.new (w.alloc (.cells #[.slice Ah nh ch, .slice Aw nw cw] tTb)) 3 #[]
      rwa [World.size_alloc] at this⟩
  have hqq : w.heap.size ≤ q2 := by omega
  rw [e1, e3, e2]
  have HB2 := Lib.hid hb2
  have HQ1 := Lib.hid hq1
  have HO2 := Lib.hid (OwnI.empty (B := w.heap.size) hqq hq2)
  clear e1 e2 e3 hb2 hq1 hq2
  go_loopw [3, 4] (fun ov iv wr => ∃ k : Nat, k ≤ nh ∧ iv = .int .i64 k ∧ OwnI wr w.heap.size ov (sortZ (idsR (hs.take k))) ∧ Blk wr q1 tTb #[.slice Ah nh ch, .slice Aw nw cw] ∧ Below w.heap.size w wr) (fun _ iv _ => nh - (intOf iv).toNat)
  case atStart => exact ⟨0, Nat.zero_le _, rfl, by rw [show sortZ (idsR (hs.take 0)) = [] from by simp [idsR, sortZ]]; exact HO2.out, HQ1.out, HB2.out⟩
  case round =>
    obtain ⟨k, hk, rfl, ho, hq, hb⟩ := hrel
    have HO := Lib.hid ho
    have HQ := Lib.hid hq
    have HB := Lib.hid hb
    have hsz := hb.size
    have z0 := hq.cell 0
    simp at z0
    clear ho hq hb
    by_cases hlt : k < nh
    · obtain ⟨b, off, x, rfl, hx, x0, x1⟩ := (OwsAt.below H.out HB.out).at_ hlt
      have HX := Lib.hid (idsR_take hx)
      obtain ⟨zs, hzs⟩ : ∃ zs, sortZ (idsR (hs.take k)) = zs := ⟨_, rfl⟩
      have HZS := Lib.hid hzs
      have hlk : zs.length ≤ 100000 := by
        have h1 := List.length_take_le k hs
        rw [← hzs, len_sortZ]
        unfold idsR
        rw [List.length_map]
        omega
      rw [hzs] at HO
      have HASC := Lib.hid (show zs.Pairwise (· ≤ ·) from by rw [← hzs]; exact sortZ_asc _)
      obtain ⟨A3, c3, rfl, hz3, hc3⟩ := HO.out.zcells
      obtain ⟨m, hm⟩ : ∃ m, zs.length = m := ⟨_, rfl⟩
      rw [hm] at hz3 hc3 hlk ⊢
      have HZ3 := Lib.hid hz3
      have hk1 : (k : Int) < (nh : Int) := by omega
      have hk2 : (0 : Int) ≤ (k : Int) := by omega
      clear hx hzs hm hz3
      go_wp2_with (go_at_call 33; refine (refAdd A3 m c3 x.1.id zs _ HZ3.out hc3 hlk HASC.out).mono ?_; rintro e w4 ⟨v4, rfl, ho4, hb4⟩; have HO4 := Lib.hid (ho4.base hsz); have HQ4 := Lib.hid (HQ.out.below hb4); have HB4 := Lib.hid (HB.out.trans (hb4.mono hsz)); clear ho4 hb4)
      refine ⟨⟨k + 1, hlt, by simp, ?_, HQ4.out, HB4.out⟩, by dsimp only [intOf]; omega⟩
      have := HO4.out
      rw [← HZS.out, sortZ_snoc] at this
      rw [HX.out]
      exact this
    · have hkn : k = nh := by omega
      have hk1 : ¬ (k : Int) < (nh : Int) := by omega
      have htk : hs.take k = hs := by rw [hkn, ← HN.out, List.take_length]
      rw [htk] at HO
      clear htk
      go_wp2
      have HOO := Lib.hid HO.out
      have HQO := Lib.hid HQ.out
      have HBO := Lib.hid HB.out
      obtain ⟨wo, hwo⟩ : ∃ wo, wr = wo := ⟨_, rfl⟩
      go_loopw [3, 5] (fun ov iv wr => ∃ k : Nat, k ≤ nw ∧ iv = .int .i64 k ∧ OwnI wr w.heap.size ov (sortZ (idsR (hs ++ ws.take k))) ∧ Blk wr q1 tTb #[.slice Ah nh ch, .slice Aw nw cw] ∧ Below w.heap.size w wr) (fun _ iv _ => nw - (intOf iv).toNat)
      case atStart => exact ⟨0, Nat.zero_le _, rfl, by simpa using HOO.out, HQO.out, HBO.out⟩
      case round =>
        clear HO HQ HB HOO HQO HBO hsz hwo
        obtain ⟨k, hk, rfl, ho, hq, hb⟩ := hrel
        have HO := Lib.hid ho
        have HQ := Lib.hid hq
        have HB := Lib.hid hb
        have hsz := hb.size
        have z1 := hq.cell 1
        simp at z1
        clear ho hq hb
        by_cases hlt : k < nw
        · obtain ⟨b, off, x, rfl, hx, x0, x1⟩ := (OwsAt.below H2.out HB.out).at_ hlt
          have HX := Lib.hid (show idsR (hs ++ ws.take (k + 1)) = idsR (hs ++ ws.take k) ++ [x.1.id] from by rw [idsR_app, idsR_take hx, idsR_app, List.append_assoc])
          obtain ⟨zs, hzs⟩ : ∃ zs, sortZ (idsR (hs ++ ws.take k)) = zs := ⟨_, rfl⟩
          have HZS := Lib.hid hzs
          have hlk : zs.length ≤ 100000 := by
            have h1 := List.length_take_le k ws
            have h2 := HN.out
            rw [← hzs, len_sortZ]
            unfold idsR
            rw [List.length_map, List.length_append]
            omega
          rw [hzs] at HO
          have HASC := Lib.hid (show zs.Pairwise (· ≤ ·) from by rw [← hzs]; exact sortZ_asc _)
          obtain ⟨A3, c3, rfl, hz3, hc3⟩ := HO.out.zcells
          obtain ⟨m, hm⟩ : ∃ m, zs.length = m := ⟨_, rfl⟩
          rw [hm] at hz3 hc3 hlk ⊢
          have HZ3 := Lib.hid hz3
          have hk1 : (k : Int) < (nw : Int) := by omega
          have hk2 : (0 : Int) ≤ (k : Int) := by omega
          clear hx hzs hm hz3
          go_wp2_with (go_at_call 33; refine (refAdd A3 m c3 x.1.id zs _ HZ3.out hc3 hlk HASC.out).mono ?_; rintro e w4 ⟨v4, rfl, ho4, hb4⟩; have HO4 := Lib.hid (ho4.base hsz); have HQ4 := Lib.hid (HQ.out.below hb4); have HB4 := Lib.hid (HB.out.trans (hb4.mono hsz)); clear ho4 hb4)
          refine ⟨⟨k + 1, hlt, by simp, ?_, HQ4.out, HB4.out⟩, by dsimp only [intOf]; omega⟩
          have := HO4.out
          rw [← HZS.out, sortZ_snoc] at this
          rw [HX.out]
          exact this
        · have hkn : k = nw := by omega
          have hk1 : ¬ (k : Int) < (nw : Int) := by omega
          go_wp2
          go_ret
          have h := HO.out
          rw [hkn, ← HN2.out, List.take_length] at h
          exact ⟨_, rfl, h, HB.out⟩
set_option maxRecDepth 100000 in
set_option maxHeartbeats 4000000 in
theorem clOwners (B p : Nat) (t : T) (F : Nat → Prop) (w : World) (m : TT w B p t F) (hl : t.hs.length + t.ws.length ≤ 100000) :
    Calls Tryz.prog 14 #[.pointer (some ⟨p, 0, none⟩)] w fun e w' => ∃ v, e = .returned v ∧ OwnI w' w.heap.size v (sortZ (ids (t.hs ++ t.ws))) ∧ Below w.heap.size w w' := by
  obtain ⟨hs, ws, vh, vw, mT, rfl, hF⟩ := m
  have hl1 : hs.length + ws.length ≤ 100000 := by simpa [fstT] using hl
  have HW := Lib.hid (clWaiting B p hs ws vh vw w mT (by omega))
  obtain ⟨A, c, rfl, hA⟩ := mT.clsH
  have HC := Lib.hid mT.box
  obtain ⟨n, hn⟩ : ∃ n, hs.length = n := ⟨_, rfl⟩
  have HE := Lib.hid (show ids ((fstT hs ws).hs ++ (fstT hs ws).ws) = idsM hs ++ idsM ws from by
    rw [ids_append]
    unfold fstT
    rw [ids_idsM, ids_idsM])
  rw [hn] at HC hA hl1
  have HA := Lib.hid hA
  have HN := Lib.hid hn
  obtain ⟨i1, hi1', hy0, hy1, hy2⟩ := info_parts infoI
  have HI1 := Lib.hid hi1'
  have HY0 := Lib.hid hy0
  have HY1 := Lib.hid hy1
  have HY2 := Lib.hid hy2
  clear mT hA hn hi1' hy0 hy1 hy2 hF hl
  go_enter Tryz.func14, Tryz.ntmps14
  go_upto_region 2 with (go_at_call 12; refine HW.out.mono ?_; rintro e w1 ⟨v1, rfl, ho1, hb1⟩; have HO1 := Lib.hid ho1; have HB1 := Lib.hid hb1; have hc := (HC.out.below hb1).cell 0; simp at hc; clear ho1 hb1)
  go_wp2
  go_loopw [3, 13] (fun ov iv wr => ∃ k : Nat, k ≤ n ∧ iv = .int .i64 k ∧ OwnI wr w.heap.size ov (idsM ws ++ idsM (hs.take k)) ∧ Below w.heap.size w wr) (fun _ iv _ => n - (intOf iv).toNat)
  case atStart => exact ⟨0, Nat.zero_le _, rfl, by simpa [idsM] using HO1.out, HB1.out⟩
  case round =>
    obtain ⟨k, hk, rfl, ho, hb⟩ := hrel
    have HO := Lib.hid ho
    have HB := Lib.hid hb
    have hsz := hb.size
    clear ho hb
    have hfl : (idsM ws ++ idsM (hs.take k)).length ≤ 1000000 := by
      have := List.length_take_le k hs
      unfold idsM
      rw [List.length_append, List.length_map, List.length_map]
      omega
    by_cases hlt : k < n
    · have hs2 := HA.out.at_.below HB.out
      obtain ⟨b, off, x, rfl, hx, x0, x1⟩ := hs2.at_ hlt
      have HX := Lib.hid (show idsM ws ++ idsM (hs.take (k + 1)) = (idsM ws ++ idsM (hs.take k)) ++ [x.1.id] from by rw [idsM_take hx, List.append_assoc])
      have hk1 : (k : Int) < (n : Int) := by omega
      have hk2 : (0 : Int) ≤ (k : Int) := by omega
      clear hs2 hx
      go_upto_region 5 with (fail)
      obtain ⟨w2, q, e1, e2, hb2, hq⟩ := boxes1 wr tC (ca x)
      unfold ca at e1
      rw [show wr.alloc (.cells #[.int .i64 x.1.id, .map (some x.2)] 76) = w2 from e1, e2]
      have hq0 := hq.cell 0
      simp [ca] at hq0
      have HB2 := Lib.hid (HB.out.trans (hb2.mono hsz))
      have HO2 := Lib.hid (HO.out.below hb2)
      have hsz2 := HB2.out.size
      clear e1 e2 hb2 hq x0 x1
      go_wp2_with (at_builtin; refine wpList_append_int rfl (.tmp 17) (.tmp 20) _ rfl w.heap.size i1 _ Tryz.underlying33 HI1.out HY0.out HY1.out HY2.out rfl _ (idsM ws ++ idsM (hs.take k)) rfl (HO2.out.alloc _) x.1.id w2.heap.size 1 rfl (World.cell?_alloc_mark w2 _ 3 (0, 0) 0) hfl (by simp; omega) ?_; intro v3 w3 hown3 hg3 hat3; have HO3 := Lib.hid hown3; have HG3 := Lib.hid hg3; clear hown3 hg3 hat3)
      exact ⟨⟨k + 1, hlt, by simp, by rw [HX.out]; exact HO3.out, (HB2.out.alloc hsz2 _).grown HG3.out (by simp; omega) (fun k e => (HO2.out.lt k e).1)⟩, by dsimp only [intOf]; omega⟩
    · have hkn : k = n := by omega
      subst hkn
      have hk1 : ¬ (k : Int) < (k : Int) := by omega
      have htk : hs.take k = hs := by rw [← HN.out, List.take_length]
      rw [htk] at HO hfl
      clear htk
      go_wp2_with fail
      refine (clSortI w.heap.size _ _ wr HO.out hfl).mono ?_
      rintro e w2 ⟨rfl, ho2, hg2⟩
      have HO2 := Lib.hid ho2
      have HG2 := Lib.hid hg2
      clear ho2 hg2
      go_wp2
      go_ret
      rw [HE.out]
      refine ⟨_, rfl, ?_, HB.out.grown HG2.out hsz (fun k e => (HO.out.lt k e).1)⟩
      have := HO2.out
      rw [sortZ_congr (List.perm_append_comm (l₁ := idsM ws) (l₂ := idsM hs))] at this
      exact this
end Go.Proofs.YtojbddcbnnbklaaGreatDoor
