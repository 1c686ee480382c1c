/- A region that draws its order: what an operation's value is known to be may end with another operation (an append that grows it in place); plain theorems, no function of the program in sight. A region that draws its order and only reads and makes memory, one operation at its end; its frame written once: plain theorems, no function of the program in sight. -/
import Derived.Test.YtjklhiifjnmedaaGreatFree
import Derived.Test.YtjklhiifjnmedaaGreatMem
import Derived.Maps.AppendAt
namespace Go.Proofs.YtjklhiifjnmedaaGreat
open Go.RowKit

section
variable {P : Program} {ops : Array Oper} {Q : Exit → Act → World → Prop}
/-- What operation j left still holds when operation i comes. -/
def alive (ops : Array Oper) (kill : Nat → Option Nat) (i j : Nat) : Bool := match kill j with
  | none => true
  | some k => k == i || (match ops[k]? with | some o => waits o i | none => false)
/-- The rule, the last operations (from number N on) in the text's order. -/
theorem wp_region_kill_tail {id : Nat} {w : World} (f N : Nat) (hm : P.follows .mixedOrders = true) (hB : backB 0 ops.toList = true) (hT : tailB ops f N = true) (hN : N < ops.size) (kill : Nat → Option Nat) (R : Nat → World → World → Prop) (C : World → Prop) (F : (Nat → Value) → Act) (Fact : Nat → Value → World → Prop) (u0 : Nat → Value)
    (hCR : ∀ k w w', C w → R k w w' → C w') (hFR : ∀ k i v w w', i ≠ k → kill i ≠ some k → Fact i v w → R k w w' → Fact i v w') (hC : C { w with drawn := w.drawn + 1 })
    (hops : allOps (fun i o => (∀ u v, (F u).put o.dst v = F (upd u i v)) ∧ ∀ u w, C w → (∀ j, waits o j = true → alive ops kill i j = true → Fact j (u j) w) → ∀ K : Act → World → Prop, (∀ v w', R i w w' → Fact i v w' → K ((F u).put o.dst v) w') →
      if Region.wanted o (yielded ops (F u).tmps) then o.wp P (F u) w K Q else K ((F u).put o.dst undef) w) 0 (ops.toList.take N))
    (hQ : ∀ u w', C w' → (∀ i, i < N → kill i = none → Fact i (u i) w') → wpList P ops Q (ops.toList.drop N) (F u) w') : (Code.region id ops true).wp P Q (F u0) w := by
  have getD_eq : ∀ (listed : Array Bool) j b c, j < listed.size → listed.getD j b = listed.getD j c := fun listed j b c h => by simp [Array.getD, h]
  refine wp_region_any hm ?_
  have main : ∀ (fuel : Nat) (listed : Array Bool) (a : Act) (w : World), listed.toList.count false ≤ fuel → listed.size = ops.size → (∀ i o, ops[i]? = some o → listed.getD i false = true → ∀ j, waits o j = true → listed.getD j false = true) → (∀ j, N ≤ j → listed.getD j false = false) → C w →
      (∃ u, a = F u ∧ ∀ i, listed.getD i false = true → (∀ k, kill i = some k → listed.getD k false = false) → Fact i (u i) w) → wpAny P .any ops Q fuel listed a w := by
    intro fuel
    induction fuel with
    | zero =>
      intro listed a w hc hs _ hlo _ _
      exfalso
      have h0 := hlo N (Nat.le_refl _)
      have hlt : N < listed.size := by omega
      have : false ∈ listed.toList := by
        have h1 : listed[N] = false := by simpa [Array.getD, hlt] using h0
        rw [← h1]
        exact Array.mem_toList_iff.2 (Array.getElem_mem hlt)
      have := List.count_pos_iff.2 this
      omega
    | succ fuel ih =>
      intro listed a w hc hs hdc hlo hCw hex
      by_cases hall : ∀ j, j < N → listed.getD j false = true
      · obtain ⟨u, rfl, hf⟩ := hex
        refine wpAny_tail hB hT (ops.size - N) N (fuel + 1) listed (F u) w (by omega) (Nat.le_refl _) hs (fun j hj => ?_) ?_ (hQ u w hCw (fun i hi hn => hf i (hall i hi) (fun k hk => by rw [hn] at hk; cases hk)))
        · by_cases hjN : j < N
          · rw [hall j hjN]; simp [hjN]
          · rw [hlo j (by omega)]; simp [hjN]
        · have hcount : ops.size - N ≤ listed.toList.count false := by
            have h1 : listed.toList = listed.toList.take N ++ listed.toList.drop N := (List.take_append_drop _ _).symm
            have h2 : (listed.toList.drop N).count false = (listed.toList.drop N).length := by
              rw [List.count_eq_length]
              intro b hb
              obtain ⟨x, hx⟩ := List.mem_iff_getElem?.1 hb
              rw [List.getElem?_drop] at hx
              have hxl : N + x < listed.size := by simpa using (List.getElem?_eq_some_iff.1 hx).1
              have h3 := hlo (N + x) (by omega)
              have h4 : listed[N + x] = b := by
                have := (List.getElem?_eq_some_iff.1 hx).2
                simpa using this
              simp only [Array.getD, hxl, dif_pos] at h3
              rw [← h4]
              exact h3.symm
            rw [h1, List.count_append, h2]
            simp
            omega
          omega
      · have hrdy : ∀ i, i ∈ Region.ready .any ops listed → i < N := by
          intro i hi
          obtain ⟨h1, o, ho, hw⟩ := mem_ready.1 hi
          rcases Nat.lt_or_ge i N with h | h
          · exact h
          · exfalso
            apply hall
            intro j hj
            have hlt : i < ops.size := (Array.getElem?_eq_some_iff.1 ho).1
            have hr := List.all_eq_true.1 hT i (List.mem_range.2 hlt)
            simp only [Bool.or_eq_true, decide_eq_true_eq] at hr
            have hr2 := List.all_eq_true.1 (hr.resolve_left (by omega)) j (List.mem_range.2 (by omega))
            refine reach_listed hdc f i j o ho (fun k hk => ?_) hr2
            rw [waits_arr] at hk
            rw [Array.any_eq_true] at hk
            obtain ⟨y, hy, h2⟩ := hk
            simp only [Bool.and_eq_true, beq_iff_eq] at h2
            rw [← h2.1]
            exact hw _ (Array.getElem_mem hy) h2.2
        refine ⟨fun h0 => ?_, fun i hi => ?_⟩
        · exfalso
          have := all_listed hB h0 N hN
          rw [getD_eq listed N true false (by omega), hlo N (Nat.le_refl _)] at this
          cases this
        · have hiN := hrdy i hi
          obtain ⟨h1, o, ho, hw0⟩ := mem_ready.1 hi
          have hw : ∀ k, waits o k = true → listed.getD k false = true := fun k hk => by
            rw [waits_arr] at hk
            rw [Array.any_eq_true] at hk
            obtain ⟨y, hy, h2⟩ := hk
            simp only [Bool.and_eq_true, beq_iff_eq] at h2
            rw [← h2.1]
            exact hw0 _ (Array.getElem_mem hy) h2.2
          obtain ⟨u, rfl, hf⟩ := hex
          have hlt : i < ops.size := (Array.getElem?_eq_some_iff.1 ho).1
          have hti : (ops.toList.take N)[i]? = some o := by rw [List.getElem?_take_of_lt hiN]; simpa using ho
          have h := allOps_at (ops.toList.take N) 0 hops i o hti
          rw [Nat.zero_add] at h
          have hcnt : (listed.setIfInBounds i true).toList.count false ≤ fuel := by
            have hil : i < listed.size := by omega
            have h2 : (listed.setIfInBounds i true).toList = listed.toList.set i true := by simp
            rw [h2]
            have hlt' : i < listed.toList.length := by simpa using hil
            have h3 : listed.toList[i]'hlt' = false := by
              rw [getD_eq listed i true false hil] at h1
              simpa [Array.getD, hil] using h1
            rw [List.count_set hlt', h3]
            have : 0 < listed.toList.count false := List.count_pos_iff.2 (by rw [← h3]; exact List.getElem_mem _)
            simp only [beq_self_eq_true, if_true, Bool.true_eq_false, beq_iff_eq, if_false]
            omega
          have hK := h.2 u w hCw (fun j hj hkj => hf j (hw j hj) (fun k hk => by
            unfold alive at hkj
            rw [hk] at hkj
            simp only [Bool.or_eq_true, beq_iff_eq] at hkj
            rcases hkj with h0 | h0
            · subst h0
              rw [← getD_eq listed k true false (by omega)]
              exact h1
            · cases hok : ops[k]? with
              | none => rw [hok] at h0; cases h0
              | some ok =>
                rw [hok] at h0
                cases hlk : listed.getD k false with
                | false => rfl
                | true =>
                  have := hdc k ok hok hlk i h0
                  rw [← getD_eq listed i true false (by omega), h1] at this
                  cases this)) (wpAny P .any ops Q fuel (listed.setIfInBounds i true)) (fun v w' hR hv => by
            refine ih _ _ w' hcnt (by simpa using hs) ?_ ?_ (hCR _ _ _ hCw hR) ⟨upd u i v, h.1 u v, fun k hk hal => ?_⟩
            · intro x o' ho' hx j hj
              by_cases hxi : i = x
              · subst hxi
                rw [ho] at ho'
                cases ho'
                exact getD_set_true (hw j hj)
              · rw [getD_set_ne false hxi] at hx
                exact getD_set_true (hdc x o' ho' hx j hj)
            · intro j hj
              rw [getD_set_ne false (by omega)]
              exact hlo j hj
            · unfold upd
              by_cases hki : k = i
              · subst hki
                rw [if_pos rfl]
                exact hv
              · rw [if_neg hki]
                have hil : i < listed.size := by omega
                have hnk : kill k ≠ some i := fun e => by
                  have := hal i e
                  simp [Array.getD, hil] at this
                refine hFR _ _ _ _ _ hki hnk (hf k ?_ (fun m hm => ?_)) hR
                · rwa [getD_set_ne false (Ne.symm hki)] at hk
                · have := hal m hm
                  rwa [getD_set_ne false (fun e => hnk (by rw [hm, e]))] at this)
          unfold wpOp
          simp only [ho]
          split
          · rename_i hwt
            rw [if_pos hwt] at hK
            exact .inl hK
          · rename_i hwt
            rw [if_neg hwt] at hK
            exact hK
  refine main ops.size _ _ _ (by simp) (by simp) ?_ ?_ hC ⟨u0, rfl, ?_⟩
  · intro i o _ hi
    exfalso
    rcases Nat.lt_or_ge i ops.size with h | h
    · simp [Array.getD, h] at hi
    · simp [Array.getD, Nat.not_lt.2 h] at hi
  · intro j _
    rcases Nat.lt_or_ge j ops.size with h | h
    · simp [Array.getD, h]
    · simp [Array.getD, Nat.not_lt.2 h]
  · intro i hi _
    exfalso
    rcases Nat.lt_or_ge i ops.size with h | h
    · simp [Array.getD, h] at hi
    · simp [Array.getD, Nat.not_lt.2 h] at hi

/-- **A region that draws its order, from whatever frame**: the first N operations in whatever order, each shown once; the others as they stand in the text. -/
theorem wp_region_kill {id : Nat} {a : Act} {w : World} (f N : Nat) (hm : P.follows .mixedOrders = true) (hB : (backB 0 ops.toList && tailB ops f N && decide (N < ops.size) && apartB (ops.toList.take N)) = true) (kill : Nat → Option Nat) (R : Nat → World → World → Prop) (C : World → Prop) (Fact : Nat → Value → World → Prop)
    (hCR : ∀ k w w', C w → R k w w' → C w') (hFR : ∀ k i v w w', i ≠ k → kill i ≠ some k → Fact i v w → R k w w' → Fact i v w') (hC : C { w with drawn := w.drawn + 1 })
    (hops : allOps (fun i o => ∀ u w, C w → (∀ j, waits o j = true → alive ops kill i j = true → Fact j (u j) w) → ∀ K : Act → World → Prop, (∀ v w', R i w w' → Fact i v w' → K ((putAll a (ops.toList.take N) u 0).put o.dst v) w') →
      if Region.wanted o (yielded ops (putAll a (ops.toList.take N) u 0).tmps) then o.wp P (putAll a (ops.toList.take N) u 0) w K Q else K ((putAll a (ops.toList.take N) u 0).put o.dst undef) w) 0 (ops.toList.take N))
    (hQ : ∀ u w', C w' → (∀ i, i < N → kill i = none → Fact i (u i) w') → wpList P ops Q (ops.toList.drop N) (putAll a (ops.toList.take N) u 0) w') : (Code.region id ops true).wp P Q a w := by
  simp only [Bool.and_eq_true, decide_eq_true_eq] at hB
  obtain ⟨⟨⟨h1, h2⟩, h3⟩, h4⟩ := hB
  obtain ⟨u0, hu0, _⟩ := putAll_self (ops.toList.take N) a 0 h4
  have main := wp_region_kill_tail (P := P) (ops := ops) (Q := Q) (id := id) (w := w) f N hm h1 h2 h3 kill R C (fun u => putAll a (ops.toList.take N) u 0) Fact u0 hCR hFR hC ?_ hQ
  · rw [hu0] at main
    exact main
  · have conv : ∀ (l : List Oper) (k : Nat) (p q : Nat → Oper → Prop), allOps p k l → (∀ i o, l[i]? = some o → p (k + i) o → q (k + i) o) → allOps q k l := by
      intro l
      induction l with
      | nil => intros; trivial
      | cons o l ih =>
        intro k p q hp hpq
        exact ⟨hpq 0 o (by simp) hp.1, ih (k + 1) p q hp.2 (fun i o' ho' h' => by
          have := hpq (i + 1) o' (by simpa using ho')
          rw [show k + (i + 1) = k + 1 + i from by omega] at this
          exact this h')⟩
    refine conv _ 0 _ _ hops (fun i o ho hp => ⟨fun u v => ?_, hp⟩)
    exact putAll_upd (ops.toList.take N) a u 0 i o v h4 ho
end

/-- What a step leaves: operation K may grow a row from block B on; the others only make memory. -/
def RK (B K i : Nat) (w1 w2 : World) : Prop := if i = K then (∃ row, w1.grownBy w2 row ∧ ∀ k, row = some k → B ≤ k) else Below w1.heap.size w1 w2
section
variable {B K i : Nat} {W w1 w2 : World}
theorem RK.at_ (h : RK B K i w1 w2) (hne : i ≠ K) : Below w1.heap.size w1 w2 := by
  unfold RK at h
  rwa [if_neg hne] at h
theorem RK.keep (h : Below W.heap.size W w1) (r : RK W.heap.size K i w1 w2) : Below W.heap.size W w2 := by
  unfold RK at r
  split at r
  · obtain ⟨row, hg, hr⟩ := r
    exact h.trans ⟨hg.os, hg.tape, hg.output, hg.size, fun k hk => hg.block k (Nat.lt_of_lt_of_le hk h.size) (fun e => by have := hr k e.symm; omega)⟩
  · exact h.trans (r.mono h.size)
theorem RK.below (r : Below w1.heap.size w1 w2) (hne : i ≠ K) : RK B K i w1 w2 := by
  unfold RK
  rwa [if_neg hne]
theorem RK.same (hne : i ≠ K) : RK B K i w1 w1 := RK.below (Below.refl _ _) hne
theorem RK.grown {row : Option Nat} (hg : w1.grownBy w2 row) (hr : ∀ k, row = some k → B ≤ k) : RK B K K w1 w2 := by
  unfold RK
  rw [if_pos rfl]
  exact ⟨row, hg, hr⟩
end
/-- An empty row of the region's own. -/
def EmptyAt (w : World) (B : Nat) (t : TypeId) (v : Value) : Prop := ∃ g, v = .slice (some ⟨g, 0, none⟩) 0 0 ∧ B ≤ g ∧ w.heap[g]? = some (.cells #[] t (0, 0))
/-- A row of the region's own. -/
def RowAt (w : World) (B : Nat) (t : TypeId) (s n : Nat) (us : List Value) (v : Value) : Prop := w.ownsRow B t s v n us
/-- One element in a block of its own. -/
def OneAt (w : World) (t : TypeId) (cs : Array Value) (v : Value) : Prop := ∃ g, v = .slice (some ⟨g, 0, none⟩) 1 1 ∧ Blk w g t cs
section
variable {w w' : World} {B n s : Nat} {t : TypeId} {v : Value} {us : List Value} {cs : Array Value}
theorem EmptyAt.new (w : World) (t : TypeId) {B : Nat} (hB : B ≤ w.heap.size) : EmptyAt (w.alloc (.cells #[] t)) B t (.slice (some ⟨w.heap.size, 0, none⟩) 0 0) := ⟨_, rfl, hB, heap_alloc_new w _⟩
theorem EmptyAt.below (h : EmptyAt w B t v) (hb : Below w.heap.size w w') : EmptyAt w' B t v := by
  obtain ⟨g, h1, h2, h3⟩ := h
  exact ⟨g, h1, h2, by rw [hb.block g (Array.getElem?_eq_some_iff.1 h3).1]; exact h3⟩
theorem RowAt.below (h : RowAt w B t s n us v) (hb : Below w.heap.size w w') : RowAt w' B t s n us v :=
  World.ownsRow.kept (row := none) h ⟨hb.os, hb.tape, hb.output, hb.size, fun k hk _ => hb.block k hk⟩ (by cases v.ownBlock <;> simp)
theorem OneAt.new (w : World) (t : TypeId) (cs : Array Value) : OneAt (w.alloc (.cells cs t)) t cs (.slice (some ⟨w.heap.size, 0, none⟩) 1 1) := ⟨_, rfl, Blk.new w t cs⟩
theorem OneAt.below (h : OneAt w t cs v) (hb : Below w.heap.size w w') : OneAt w' t cs v := by
  obtain ⟨g, h1, h2⟩ := h
  exact ⟨g, h1, h2.below hb⟩
/-- The cells of a slice behind a cut. -/
theorem CellsAt.cut {A : Option Addr} {c k : Nat} (h : CellsAt w A n s us) (hk : k ≤ n) (hc : n ≤ c) : CellsAt w (if c = k then A else A.map (·.add (k * s))) (n - k) s (us.drop (k * s)) := by
  have hl := h.1
  refine ⟨by rw [List.length_drop, hl, Nat.sub_mul], fun j u hj => ?_⟩
  rw [List.getElem?_drop] at hj
  obtain ⟨b, off, rfl, h2⟩ := h.2 _ u hj
  have hlt := (List.getElem?_eq_some_iff.1 hj).1
  rw [hl] at hlt
  have hne : c ≠ k := by
    rintro rfl
    have : n = c := by omega
    subst this
    omega
  rw [if_neg hne]
  exact ⟨b, off + k * s, by rw [Option.map_some, Addr.add_lit], by rw [Nat.add_assoc]; exact h2⟩
theorem CellsAt.pre {A : Option Addr} {k : Nat} (h : CellsAt w A n s us) (hk : k ≤ n) : CellsAt w A k s (us.take (k * s)) := by
  have hl := h.1
  have := Nat.mul_le_mul_right s hk
  refine ⟨by rw [List.length_take, hl]; omega, fun j u hj => ?_⟩
  rw [List.getElem?_take] at hj
  split at hj
  · exact h.2 j u hj
  · cases hj
end
theorem run_appNone {P : Program} (w : World) (t ty e : TypeId) (i : TypeInfo) (ht : P.underlying t = some (.slice e)) (hi : P.info? e = some i) (A : Option Addr) (n c c2 : Nat) (hn : n ≤ c) :
    (Builtin.append_ #[t, t] ty #[.slice A n c, .slice none 0 c2]).run P w = .ok (.slice A n c) w := by
  rcases A with _ | ad <;> simp [Builtin.append_, run_underlying ht, sizeOf, typeInfo, hi, Builtin.lenOf, Builtin.firstCells, storeCells, hn]
section
variable {P : Program} {w : World}
/-- 's[k:]'. -/
theorem wp_slice_from {o : Oper} {a : Act} {K : Act → World → Prop} {Q : Exit → Act → World → Prop} (t : TypeId) (x lo : Operand) (ho : o.op = .slice t x (some lo) none none) (ht : P.underlying t = some (.slice (P.elem t))) (size : Nat) (hsz : ∀ w, (sizeOf (P.elem t)).run P w = .ok size w)
    (A : Option Addr) (n c k : Nat) (hx : a.eval x = .slice A n c) (hl : a.eval lo = .int .i64 k) (hk : k ≤ n) (h : K (a.put o.dst (.slice (if c = k then A else A.map (·.add (k * size))) (n - k) (c - k))) w) : o.wp P a w K Q := by
  unfold Oper.wp execOp
  have e := run_slice_l (P := P) w t A n c ht .i64 (k : Int) (by omega) (by omega)
  simp only [ho, hx, hl, Option.map]
  simp only [Sem.run_bind, run_sliceAt_slice _ _ _ _ _ _ ht, e, hsz, Result.andThen_ok, Int.toNat_natCast, sliced]
  exact h
/-- 's[:k]'. -/
theorem wp_slice_to {o : Oper} {a : Act} {K : Act → World → Prop} {Q : Exit → Act → World → Prop} (t : TypeId) (x hi : Operand) (ho : o.op = .slice t x none (some hi) none) (ht : P.underlying t = some (.slice (P.elem t))) (size : Nat) (hsz : ∀ w, (sizeOf (P.elem t)).run P w = .ok size w)
    (A : Option Addr) (n c k : Nat) (hx : a.eval x = .slice A n c) (hl : a.eval hi = .int .i64 k) (hk : k ≤ c) (h : K (a.put o.dst (.slice A k c)) w) : o.wp P a w K Q := by
  unfold Oper.wp execOp
  have e := run_slice_h (P := P) w t A n c ht .i64 (k : Int) (by omega) (by omega)
  have ea : (if c = 0 then A else A.map (·.add (0 * size))) = A := by
    split
    · rfl
    · cases A with
      | none => rfl
      | some ad => simp [Addr.add]
  simp only [ho, hx, hl, Option.map]
  simp only [Sem.run_bind, run_sliceAt_slice _ _ _ _ _ _ ht, e, hsz, Result.andThen_ok, Int.toNat_natCast, sliced, ea, Nat.sub_zero]
  exact h
/-- 'append(s, x...)', s a row of the call's own, x whatever reads as cells. -/
theorem wp_append_own {o : Oper} {a : Act} {K : Act → World → Prop} {Q : Exit → Act → World → Prop} (s x : Operand) (t : TypeId)
    (ho : o.op = .call { callee := .builtin .append, args := #[s, x], argTypes := #[t, t] })
    (base : Nat) (e : TypeId) (i : TypeInfo) (z : Value) (size bytes : Nat) (ht : P.underlying t = some (.slice e)) (hi : P.info? e = some i) (hz : i.zero = some z)
    (hsize : i.size = size) (hby : i.bytes = bytes) (hzs : z.cells.size = size) (hsz : 0 < size)
    (v : Value) (n : Nat) (us : List Value) (hs : a.eval s = v) (hown : w.ownsRow base e size v n us)
    (A : Option Addr) (m c : Nat) (news : List Value) (hx : a.eval x = .slice A m c) (hz0 : A = none → m = 0) (hr : CellsAt w A m size news) (h1 : ∀ u ∈ news, u.oneCell' = true)
    (h63 : n + m ≤ maxLen) (hbytes : (n + m) * bytes ≤ 140737488355328) (hbase : base ≤ w.heap.size)
    (h : ∀ v' w', RowAt w' base e size (n + m) (us ++ news) v' → w.grownBy w' v.ownBlock → K (a.put o.dst v') w') : o.wp P a w K Q := by
  have main : ∃ v' w', (Builtin.append_ #[t, t] o.type #[v, .slice A m c]).run P w = .ok v' w' ∧ w'.ownsRow base e size v' (n + m) (us ++ news) ∧ w.grownBy w' v.ownBlock := by
    cases A with
    | none =>
      have h0 := hz0 rfl
      subst h0
      have hm : news = [] := List.eq_nil_of_length_eq_zero (by rw [hr.1]; simp)
      subst hm
      obtain ⟨A1, c1, rfl, hc1⟩ : ∃ A1 c1, v = .slice A1 n c1 ∧ n ≤ c1 := by
        rcases hown.2 with ⟨rfl, h0⟩ | ⟨g, cap, cur, rfl, _, _, h2, _⟩
        · exact ⟨none, 0, by rw [h0], by omega⟩
        · exact ⟨_, _, rfl, h2⟩
      exact ⟨_, w, run_appNone w t o.type e i ht hi A1 n c1 c hc1, by rw [List.append_nil]; exact hown, ⟨rfl, rfl, rfl, Nat.le_refl _, fun _ _ _ => rfl⟩⟩
    | some ad =>
      obtain ⟨v', w', hr', h2, h3, _, _⟩ := run_append_own_at (P := P) w base t o.type e i z size bytes ht hi hz hsize hby hzs hsz v n us hown ad m c news hr.1 (fun j u hj => by
        obtain ⟨b', off', he, h4⟩ := hr.2 j u hj
        injection he with he
        subst he
        rw [Addr.add_lit]
        exact h4) h1 h63 hbytes hbase
      exact ⟨v', w', hr', h2, h3⟩
  obtain ⟨v', w', hrun, h2, h3⟩ := main
  unfold Oper.wp execOp
  simp only [ho, resolve, invoke, builtin, Sem.run_bind, Sem.run_pure, Result.andThen_ok, List.map_toArray, List.map_cons, List.map_nil, hs, hx, hrun]
  exact h v' w' h2 h3
end
theorem row_base {w : World} {B s n : Nat} {t : TypeId} {us : List Value} {v : Value} (h : RowAt w B t s n us v) : ∀ k, v.ownBlock = some k → B ≤ k := fun k hk => (World.ownsRow.lt h k hk).1
end Go.Proofs.YtjklhiifjnmedaaGreat
namespace Go.Proofs.YtjklhiifjnmedaaGreat
open Go.RowKit

/-- Each operation ahead of number k is waited for by a later one, up to k. -/
def lastB (ops : Array Oper) (k : Nat) : Bool := (List.range k).all fun j => (List.range (k + 1)).any fun m => decide (j < m) && (match ops[m]? with | some o => waits o j | none => false)
theorem reachB_mono {ops : Array Oper} : ∀ (f k j : Nat), reachB ops f k j = true → reachB ops (f + 1) k j = true
  | 0, _, _, h => by cases h
  | f + 1, k, j, h => by
    rw [reachB] at h ⊢
    cases ho : ops[k]? with
    | none => rw [ho] at h; cases h
    | some o =>
      rw [ho] at h
      simp only [Array.any_eq_true, Bool.and_eq_true, Bool.or_eq_true, beq_iff_eq] at h ⊢
      obtain ⟨x, hx, h1, h2⟩ := h
      exact ⟨x, hx, h1, h2.imp id (fun h => reachB_mono f _ _ h)⟩
theorem reachB_up {ops : Array Oper} {f k j : Nat} (h : reachB ops f k j = true) : ∀ d, reachB ops (f + d) k j = true
  | 0 => h
  | d + 1 => reachB_mono _ _ _ (reachB_up h d)
theorem reachB_one {ops : Array Oper} {k j : Nat} {o : Oper} (ho : ops[k]? = some o) (hw : waits o j = true) (f : Nat) : reachB ops (f + 1) k j = true := by
  rw [reachB, ho]
  rw [waits_arr] at hw
  simp only [Array.any_eq_true, Bool.and_eq_true, Bool.or_eq_true, beq_iff_eq] at hw ⊢
  obtain ⟨x, hx, h1, h2⟩ := hw
  exact ⟨x, hx, h2, .inl h1⟩
theorem reachB_snoc {ops : Array Oper} {m j : Nat} {o : Oper} (ho : ops[m]? = some o) (hw : waits o j = true) : ∀ (f k : Nat), reachB ops f k m = true → reachB ops (f + 1) k j = true
  | 0, _, h => by cases h
  | f + 1, k, h => by
    rw [reachB] at h ⊢
    cases hk : ops[k]? with
    | none => rw [hk] at h; cases h
    | some o' =>
      rw [hk] at h
      simp only [Array.any_eq_true, Bool.and_eq_true, Bool.or_eq_true, beq_iff_eq] at h ⊢
      obtain ⟨x, hx, h1, h2⟩ := h
      refine ⟨x, hx, h1, .inr ?_⟩
      rcases h2 with h2 | h2
      · rw [h2]
        exact reachB_one ho hw f
      · exact reachB_snoc ho hw f _ h2
theorem tailB_last {ops : Array Oper} {k : Nat} (hs : ops.size = k + 1) (h : lastB ops k = true) : tailB ops (k + 1) k = true := by
  have key : ∀ d j, j < k → k - j ≤ d → reachB ops d k j = true := by
    intro d
    induction d with
    | zero => intro j hj hd; omega
    | succ d ih =>
      intro j hj hd
      have h1 := List.all_eq_true.1 h j (List.mem_range.2 hj)
      obtain ⟨m, hm, h2⟩ := List.any_eq_true.1 h1
      simp only [Bool.and_eq_true, decide_eq_true_eq] at h2
      obtain ⟨hjm, h3⟩ := h2
      have hmk := List.mem_range.1 hm
      cases ho : ops[m]? with
      | none => rw [ho] at h3; cases h3
      | some o =>
        rw [ho] at h3
        by_cases hmk2 : m = k
        · subst hmk2
          exact reachB_one ho h3 d
        · exact reachB_snoc ho h3 d k (ih m (by omega) (by omega))
  unfold tailB
  rw [List.all_eq_true]
  intro i hi
  have hi' := List.mem_range.1 hi
  by_cases hik : i < k
  · simp [hik]
  · have hik2 : i = k := by omega
    subst hik2
    simp only [Bool.or_eq_true, decide_eq_true_eq]
    refine .inr (List.all_eq_true.2 fun j hj => ?_)
    have hj' := List.mem_range.1 hj
    have := reachB_up (key (i - j) j hj' (Nat.le_refl _)) (i + 1 - (i - j))
    rwa [show i - j + (i + 1 - (i - j)) = i + 1 from by omega] at this
/-- A region that draws its order and only reads and makes memory, one operation at its end; its frame, once. -/
theorem wp_region_frame {P : Program} {ops : Array Oper} {Q : Exit → Act → World → Prop} {id : Nat} {a : Act} {w : World} {F : (Nat → Value) → Act} (N : Nat) (hm : P.follows .mixedOrders = true) (hB : (backB 0 ops.toList && lastB ops N && decide (ops.size = N + 1) && apartB (ops.toList.take N)) = true) (C : World → Prop) (Fact : Nat → Value → World → Prop)
    (hCR : ∀ w w', C w → Below w.heap.size w w' → C w') (hFR : ∀ i v w w', Fact i v w → Below w.heap.size w w' → Fact i v w') (hC : C { w with drawn := w.drawn + 1 }) (hF : ∀ u, putAll a (ops.toList.take N) u 0 = F u)
    (hops : allOps (fun i o => ∀ u w, C w → (∀ j, waits o j = true → Fact j (u j) w) → ∀ K : Act → World → Prop, (∀ v w', Below w.heap.size w w' → Fact i v w' → K ((F u).put o.dst v) w') →
      if Region.wanted o (yielded ops (F u).tmps) then o.wp P (F u) w K Q else K ((F u).put o.dst undef) w) 0 (ops.toList.take N))
    (hQ : ∀ u w', C w' → (∀ i, i < N → Fact i (u i) w') → wpList P ops Q (ops.toList.drop N) (F u) w') : (Code.region id ops true).wp P Q a w := by
  simp only [Bool.and_eq_true, decide_eq_true_eq] at hB
  obtain ⟨⟨⟨hb1, hb2⟩, hb3⟩, hb4⟩ := hB
  have hlt : N < ops.size := by omega
  refine wp_region_kill (N + 1) N hm (by simp only [Bool.and_eq_true, decide_eq_true_eq]; exact ⟨⟨⟨hb1, tailB_last hb3 hb2⟩, hlt⟩, hb4⟩) (fun _ => none) (fun _ a b => Below a.heap.size a b) C Fact (fun _ _ _ => hCR _ _) (fun _ i v w w' _ _ => hFR i v w w') hC ?_ (fun u w' hc hf => by rw [hF u]; exact hQ u w' hc (fun i hi => hf i hi rfl))
  have conv : ∀ (l : List Oper) (k : Nat) (p q : Nat → Oper → Prop), allOps p k l → (∀ i o, p i o → q i o) → allOps q k l := by
    intro l
    induction l with
    | nil => intros; trivial
    | cons o l ih => intro k p q hp hpq; exact ⟨hpq _ _ hp.1, ih _ _ _ hp.2 hpq⟩
  refine conv _ 0 _ _ hops (fun i o hp u w hc hd K hK => ?_)
  rw [hF u] at hK ⊢
  exact hp u w hc (fun j hj => hd j hj rfl) K hK
/-- The operations write the slots from s on, one after the other. -/
def dstB : Nat → List Oper → Bool
  | _, [] => true
  | s, o :: l => (o.dst == some s) && dstB (s + 1) l
theorem putAll_mid (u : Nat → Value) : ∀ (l : List Oper) (a : Act) (k s : Nat), dstB s l = true → s + l.length ≤ a.tmps.size → putAll a l u k = { a with tmps := (a.tmps.toList.take s ++ ((List.range' k l.length).map u ++ a.tmps.toList.drop (s + l.length))).toArray }
  | [], a, k, s, _, _ => by
    obtain ⟨⟨xs⟩, d⟩ := a
    simp [putAll]
  | o :: l, ⟨⟨xs⟩, d⟩, k, s, h, hs => by
    simp only [dstB, Bool.and_eq_true, beq_iff_eq] at h
    obtain ⟨h1, h2⟩ := h
    rw [List.length_cons] at hs
    have hs' : s + (l.length + 1) ≤ xs.length := hs
    have e : (Act.mk ⟨xs⟩ d).put o.dst (u k) = Act.mk ⟨xs.set s (u k)⟩ d := by rw [h1]; simp [Act.put]
    show putAll ((Act.mk ⟨xs⟩ d).put o.dst (u k)) l u (k + 1) = _
    rw [e, putAll_mid u l _ (k + 1) (s + 1) h2 (by simp; omega)]
    have h3 : (xs.set s (u k)).take (s + 1) = xs.take s ++ [u k] := by
      rw [List.take_add_one, List.take_set_of_le (Nat.le_refl _)]
      simp
      rw [List.getElem?_set_self (by omega)]
    have h4 : (xs.set s (u k)).drop (s + 1 + l.length) = xs.drop (s + (l.length + 1)) := by
      rw [List.drop_set_of_lt (by omega), show s + 1 + l.length = s + (l.length + 1) from by omega]
    simp only [List.length_cons, List.range'_succ, List.map_cons]
    rw [h3, h4]
    simp
end Go.Proofs.YtjklhiifjnmedaaGreat
