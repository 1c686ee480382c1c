/- A region that draws its order, taken op by op, whatever the order: each operation is shown once, from what the operations that it waits for have left; what they leave is kept by all others. -/
import Derived.Orders
import Derived.RegionTactic
namespace Go.Proofs.YtjklhiifjnmedaaGreatDoor

def upd (u : Nat → Value) (i : Nat) (v : Value) : Nat → Value := fun j => if j = i then v else u j

/-- Operation o waits for operation number j. -/
def waits (o : Oper) (j : Nat) : Bool := o.after.toList.any fun e => e.on == j && Region.binds .any e
theorem waits_arr (o : Oper) (j : Nat) : waits o j = o.after.any fun e => e.on == j && Region.binds .any e := Array.any_toList

def allOps (p : Nat → Oper → Prop) : Nat → List Oper → Prop
  | _, [] => True
  | k, o :: l => p k o ∧ allOps p (k + 1) l
theorem allOps_nil {p : Nat → Oper → Prop} {k : Nat} : allOps p k [] := trivial
theorem allOps_cons {p : Nat → Oper → Prop} {k : Nat} {o : Oper} {l : List Oper} (h : p k o) (t : allOps p (k + 1) l) : allOps p k (o :: l) := ⟨h, t⟩
theorem allOps_at {p : Nat → Oper → Prop} : ∀ (l : List Oper) (k : Nat), allOps p k l → ∀ i o, l[i]? = some o → p (k + i) o
  | [], _, _, i, o, h => by simp at h
  | x :: l, k, ⟨h1, h2⟩, 0, o, h => by
    simp only [List.getElem?_cons_zero, Option.some.injEq] at h
    subst h
    exact h1
  | x :: l, k, ⟨h1, h2⟩, i + 1, o, h => by
    have := allOps_at l (k + 1) h2 i o (by simpa using h)
    rw [show k + (i + 1) = k + 1 + i from by omega]
    exact this

/-- Every operation waits for earlier ones alone. -/
def backB : Nat → List Oper → Bool
  | _, [] => true
  | k, o :: l => o.after.all (fun e => decide (e.on < k)) && backB (k + 1) l
theorem backB_at : ∀ (l : List Oper) (k : Nat), backB k l = true → ∀ i o, l[i]? = some o → ∀ e ∈ o.after, e.on < k + i
  | [], _, _, i, o, h => by simp at h
  | x :: l, k, hb, 0, o, h => by
    simp only [List.getElem?_cons_zero, Option.some.injEq] at h
    subst h
    simp only [backB, Bool.and_eq_true] at hb
    intro e he
    have := Array.all_eq_true_iff_forall_mem.1 hb.1 e he
    simpa using this
  | x :: l, k, hb, i + 1, o, h => by
    simp only [backB, Bool.and_eq_true] at hb
    intro e he
    have := backB_at l (k + 1) hb.2 i o (by simpa using h) e he
    omega

section
variable {P : Program} {ops : Array Oper} {Q : Exit → Act → World → Prop}

/-- Nothing is ready: all is listed. -/
theorem all_listed (hB : backB 0 ops.toList = true) {listed : Array Bool} (hr : Region.ready .any ops listed = []) : ∀ i, i < ops.size → listed.getD i true = true := by
  intro i
  induction i using Nat.strongRecOn with
  | _ i ih =>
    intro hi
    cases hl : listed.getD i true with
    | true => rfl
    | false =>
      exfalso
      have ho : ops[i]? = some ops[i] := Array.getElem?_eq_getElem hi
      have ho' : ops.toList[i]? = some ops[i] := by simp [hi]
      have : i ∈ Region.ready .any ops listed := mem_ready.2 ⟨hl, ops[i], ho, fun e he _ => by
        have hlt := backB_at ops.toList 0 hB i ops[i] ho' e he
        have h1 := ih e.on (by omega) (by omega)
        have hsz : e.on < listed.size := by
          rcases Nat.lt_or_ge i listed.size with h | h
          · omega
          · simp [Array.getD, Nat.not_lt.2 h] at hl
        simp only [Array.getD, hsz, dif_pos] at h1 ⊢
        exact h1⟩
      rw [hr] at this
      cases this

theorem wpAny_free (hB : backB 0 ops.toList = true) (J : Array Bool → Act → World → Prop)
    (hstep : ∀ listed a w i o, J listed a w → ops[i]? = some o → (∀ j, waits o j = true → listed.getD j false = true) → wpOp P ops Q i (fun a' w' => J (listed.setIfInBounds i true) a' w') a w)
    (hend : ∀ listed a w, J listed a w → (∀ i, i < ops.size → listed.getD i true = true) → Q .normal a w) :
    ∀ (fuel : Nat) (listed : Array Bool) (a : Act) (w : World), listed.toList.count false ≤ fuel → J listed a w → wpAny P .any ops Q fuel listed a w := by
  have rdy : ∀ listed j, j ∈ Region.ready .any ops listed → listed.getD j true = false ∧ ∃ o, ops[j]? = some o ∧ ∀ k, waits o k = true → listed.getD k false = true := by
    intro listed j hj
    obtain ⟨h1, o, ho, hall⟩ := mem_ready.1 hj
    refine ⟨h1, o, ho, fun k hk => ?_⟩
    rw [waits_arr] at hk
    rw [Array.any_eq_true] at hk
    obtain ⟨x, hx, h2⟩ := hk
    have he : o.after[x] ∈ o.after := Array.getElem_mem hx
    generalize o.after[x] = e at he h2
    simp only [Bool.and_eq_true, beq_iff_eq] at h2
    rw [← h2.1]
    exact hall e he h2.2
  have pos : ∀ (listed : Array Bool) j, listed.getD j true = false → ∃ h : j < listed.size, listed[j] = false := by
    intro listed j h
    rcases Nat.lt_or_ge j listed.size with hlt | hge
    · refine ⟨hlt, ?_⟩
      simpa [Array.getD, hlt] using h
    · simp [Array.getD, Nat.not_lt.2 hge] at h
  intro fuel
  induction fuel with
  | zero =>
    intro listed a w hc hJ
    have h0 : Region.ready .any ops listed = [] := by
      apply List.eq_nil_iff_forall_not_mem.2
      intro j hj
      obtain ⟨hlt, hf⟩ := pos listed j (rdy listed j hj).1
      have : false ∈ listed.toList := by
        rw [← hf]
        exact Array.mem_toList_iff.2 (Array.getElem_mem hlt)
      have := List.count_pos_iff.2 this
      omega
    exact ⟨h0, hend listed a w hJ (all_listed hB h0)⟩
  | succ fuel ih =>
    intro listed a w hc hJ
    refine ⟨fun h0 => hend listed a w hJ (all_listed hB h0), fun i hi => ?_⟩
    obtain ⟨h1, o, ho, hw⟩ := rdy listed i hi
    obtain ⟨hlt, hf⟩ := pos listed i h1
    refine wpOp_mono (fun a' w' hJ' => ih _ a' w' ?_ hJ') (hstep listed a w i o hJ ho hw)
    have h2 : (listed.setIfInBounds i true).toList = listed.toList.set i true := by simp
    rw [h2]
    have hlt' : i < listed.toList.length := by simpa using hlt
    have h3 : listed.toList[i]'hlt' = false := by simpa using hf
    rw [List.count_set hlt', h3]
    have : 0 < listed.toList.count false := List.count_pos_iff.2 (by rw [← h3]; exact List.getElem_mem _)
    simp only [beq_self_eq_true, if_true, Bool.true_eq_false, beq_iff_eq, if_false]
    omega

/-- The rule: F is the frame by what the operations have left, Fact i v w what operation i's value v is known to be in the world w, C what is known of every world on the way. -/
theorem wp_region_free {id : Nat} {w : World} (hm : P.follows .mixedOrders = true) (hB : backB 0 ops.toList = true) (R : World → World → Prop) (C : World → Prop) (F : (Nat → Value) → Act) (Fact : Nat → Value → World → Prop) (u0 : Nat → Value)
    (hCR : ∀ w w', C w → R w w' → C w') (hFR : ∀ i v w w', Fact i v w → R w w' → Fact i v w') (hC : C { w with drawn := w.drawn + 1 })
    (hops : allOps (fun i o => (∀ u v, (F u).put o.dst v = F (upd u i v)) ∧ ∀ u w, C w → (∀ j, waits o j = true → Fact j (u j) w) → ∀ K : Act → World → Prop, (∀ v w', R w w' → Fact i v w' → K ((F u).put o.dst v) w') →
      if Region.wanted o (yielded ops (F u).tmps) then o.wp P (F u) w K Q else K ((F u).put o.dst undef) w) 0 ops.toList)
    (hQ : ∀ u w', C w' → (∀ i, i < ops.size → Fact i (u i) w') → Q .normal (F u) w') : (Code.region id ops true).wp P Q (F u0) w := by
  refine wp_region_any hm (wpAny_free hB (fun listed a w => listed.size = ops.size ∧ C w ∧ ∃ u, a = F u ∧ ∀ i, listed.getD i false = true → Fact i (u i) w) ?_ ?_ ops.size _ _ _ ?_ ⟨by simp, hC, u0, rfl, ?_⟩)
  · rintro listed a w i o ⟨hs, hCw, u, rfl, hf⟩ ho hw
    have hlt : i < ops.size := (Array.getElem?_eq_some_iff.1 ho).1
    have h := allOps_at ops.toList 0 hops i o (by simpa using ho)
    rw [Nat.zero_add] at h
    have hK := h.2 u w hCw (fun j hj => hf j (hw j hj)) (fun a' w' => (listed.setIfInBounds i true).size = ops.size ∧ C w' ∧ ∃ u, a' = F u ∧ ∀ k, (listed.setIfInBounds i true).getD k false = true → Fact k (u k) w') (fun v w' hR hv => by
      refine ⟨by simpa using hs, hCR _ _ hCw hR, upd u i v, h.1 u v, fun k hk => ?_⟩
      unfold upd
      by_cases hki : k = i
      · subst hki
        rw [if_pos rfl]
        exact hv
      · rw [if_neg hki]
        refine hFR _ _ _ _ (hf k ?_) hR
        rwa [getD_set_ne false (Ne.symm hki)] at hk)
    unfold wpOp
    simp only [ho]
    split
    · rename_i hwt
      rw [if_pos hwt] at hK
      exact .inl hK
    · rename_i hwt
      rw [if_neg hwt] at hK
      exact hK
  · rintro listed a w ⟨hs, hCw, u, rfl, hf⟩ hall
    refine hQ u w hCw (fun i hi => hf i ?_)
    have := hall i hi
    have hlt : i < listed.size := by omega
    simp only [Array.getD, hlt, dif_pos] at this ⊢
    exact this
  · simp
  · intro i hi
    exfalso
    rcases Nat.lt_or_ge i ops.size with h | h
    · simp [Array.getD, h] at hi
    · simp [Array.getD, Nat.not_lt.2 h] at hi

/-- Operation k comes behind operation j, along what it waits for. -/
def reachB (ops : Array Oper) : Nat → Nat → Nat → Bool
  | 0, _, _ => false
  | f + 1, k, j => match ops[k]? with
    | none => false
    | some o => o.after.any fun e => Region.binds .any e && (e.on == j || reachB ops f e.on j)
/-- From operation N on the order is forced. -/
def tailB (ops : Array Oper) (f N : Nat) : Bool := (List.range ops.size).all fun k => decide (k < N) || (List.range k).all fun j => reachB ops f k j

theorem reach_listed {listed : Array Bool} (hdc : ∀ i o, ops[i]? = some o → listed.getD i false = true → ∀ j, waits o j = true → listed.getD j false = true) :
    ∀ (f k j : Nat) (o : Oper), ops[k]? = some o → (∀ j, waits o j = true → listed.getD j false = true) → reachB ops f k j = true → listed.getD j false = true
  | 0, _, _, _, _, _, h => by cases h
  | f + 1, k, j, o, ho, hw, h => by
    rw [reachB, ho] at h
    simp only at h
    rw [Array.any_eq_true] at h
    obtain ⟨x, hx, h2⟩ := h
    simp only [Bool.and_eq_true, Bool.or_eq_true, beq_iff_eq] at h2
    have hwe : waits o (o.after[x]).on = true := by
      rw [waits_arr]
      rw [Array.any_eq_true]
      exact ⟨x, hx, by simp [h2.1]⟩
    have hl := hw _ hwe
    rcases h2.2 with h3 | h3
    · rw [← h3]
      exact hl
    · cases ho' : ops[(o.after[x]).on]? with
      | none =>
        cases f with
        | zero => cases h3
        | succ f => rw [reachB, ho'] at h3; cases h3
      | some o' => exact reach_listed hdc f _ j o' ho' (hdc _ o' ho' hl) h3

theorem wpAny_tail {f N : Nat} (hB : backB 0 ops.toList = true) (hT : tailB ops f N = true) : ∀ (m k fuel : Nat) (listed : Array Bool) (a : Act) (w : World), k + m = ops.size → N ≤ k → listed.size = ops.size → (∀ j, j < ops.size → listed.getD j false = decide (j < k)) → m ≤ fuel →
    wpList P ops Q (ops.toList.drop k) a w → wpAny P .any ops Q fuel listed a w := by
  have getD_eq : ∀ (listed : Array Bool) j b c, j < listed.size → listed.getD j b = listed.getD j c := fun listed j b c h => by simp [Array.getD, h]
  intro m
  induction m with
  | zero =>
    intro k fuel listed a w hk hN hs hl _ h
    have hnil : ops.toList.drop k = [] := List.drop_of_length_le (by simp; omega)
    rw [hnil] at h
    have h0 : Region.ready .any ops listed = [] := by
      apply List.eq_nil_iff_forall_not_mem.2
      intro j hj
      obtain ⟨h1, o, ho, _⟩ := mem_ready.1 hj
      have hlt : j < ops.size := (Array.getElem?_eq_some_iff.1 ho).1
      rw [getD_eq listed j true false (by omega), hl j hlt] at h1
      simp at h1
      omega
    cases fuel with
    | zero => exact ⟨h0, h⟩
    | succ fuel => exact ⟨fun _ => h, fun i hi => by rw [h0] at hi; cases hi⟩
  | succ m ih =>
    intro k fuel listed a w hk hN hs hl hf h
    have hkl : k < ops.size := by omega
    obtain ⟨fuel, rfl⟩ : ∃ g, fuel = g + 1 := ⟨fuel - 1, by omega⟩
    have hdrop : ops.toList.drop k = ops[k] :: ops.toList.drop (k + 1) := by
      rw [List.drop_eq_getElem_cons (by simpa using hkl)]
      simp
    have hok : ops[k]? = some ops[k] := Array.getElem?_eq_getElem hkl
    rw [hdrop] at h
    have hstep : wpOp P ops Q k (wpAny P .any ops Q fuel (listed.setIfInBounds k true)) a w := by
      have hgo : ∀ a' w', wpList P ops Q (ops.toList.drop (k + 1)) a' w' → wpAny P .any ops Q fuel (listed.setIfInBounds k true) a' w' := fun a' w' h' => by
        refine ih (k + 1) fuel _ a' w' (by omega) (by omega) (by simpa using hs) (fun j hj => ?_) (by omega) h'
        by_cases hjk : k = j
        · subst hjk
          simp [Array.getD, hs, hkl]
        · rw [getD_set_ne false hjk, hl j hj]
          congr 1
          exact propext ⟨fun _ => by omega, fun _ => by omega⟩
      unfold wpList at h
      unfold wpOp
      simp only [hok]
      split
      · rename_i hw
        rw [if_pos hw] at h
        exact h.imp (Oper.wp_mono hgo) id
      · rename_i hw
        rw [if_neg hw] at h
        exact hgo _ _ h
    have hrdy : ∀ i, i ∈ Region.ready .any ops listed → i = k := by
      intro i hi
      obtain ⟨h1, o, ho, hall⟩ := mem_ready.1 hi
      have hlt : i < ops.size := (Array.getElem?_eq_some_iff.1 ho).1
      rw [getD_eq listed i true false (by omega), hl i hlt] at h1
      simp at h1
      rcases Nat.lt_or_ge k i with hki | hki
      · exfalso
        have hr := List.all_eq_true.1 hT i (List.mem_range.2 hlt)
        simp only [Bool.or_eq_true, decide_eq_true_eq] at hr
        have hr2 := List.all_eq_true.1 (hr.resolve_left (by omega)) k (List.mem_range.2 hki)
        have hlk := reach_listed (ops := ops) (listed := listed) (fun x o' ho' hx j hj => by
          have hxl : x < ops.size := (Array.getElem?_eq_some_iff.1 ho').1
          rw [hl x hxl] at hx
          simp at hx
          rw [waits_arr] at hj
          rw [Array.any_eq_true] at hj
          obtain ⟨y, hy, h2⟩ := hj
          simp only [Bool.and_eq_true, beq_iff_eq] at h2
          have hback := backB_at ops.toList 0 hB x o' (by simpa using ho') _ (Array.getElem_mem hy)
          rw [h2.1] at hback
          rw [hl j (by omega)]
          simp
          omega) f i k o ho (fun j hj => by
          rw [waits_arr] at hj
          rw [Array.any_eq_true] at hj
          obtain ⟨y, hy, h2⟩ := hj
          simp only [Bool.and_eq_true, beq_iff_eq] at h2
          rw [← h2.1]
          exact hall _ (Array.getElem_mem hy) h2.2) hr2
        rw [hl k hkl] at hlk
        simp at hlk
      · omega
    refine ⟨fun h0 => ?_, fun i hi => ?_⟩
    · exfalso
      have := all_listed hB h0 k hkl
      rw [getD_eq listed k true false (by omega), hl k hkl] at this
      simp at this
    · rw [hrdy i hi]
      exact hstep

/-- The rule, the last operations (from number N on) in the text's order. -/
theorem wp_region_free_tail {id : Nat} {w : World} (f N : Nat) (hm : P.follows .mixedOrders = true) (hB : backB 0 ops.toList = true) (hT : tailB ops f N = true) (hN : N < ops.size) (R : World → World → Prop) (C : World → Prop) (F : (Nat → Value) → Act) (Fact : Nat → Value → World → Prop) (u0 : Nat → Value)
    (hCR : ∀ w w', C w → R w w' → C w') (hFR : ∀ i v w w', Fact i v w → R w w' → Fact i v w') (hC : C { w with drawn := w.drawn + 1 })
    (hops : allOps (fun i o => (∀ u v, (F u).put o.dst v = F (upd u i v)) ∧ ∀ u w, C w → (∀ j, waits o j = true → Fact j (u j) w) → ∀ K : Act → World → Prop, (∀ v w', R w w' → Fact i v w' → K ((F u).put o.dst v) w') →
      if Region.wanted o (yielded ops (F u).tmps) then o.wp P (F u) w K Q else K ((F u).put o.dst undef) w) 0 (ops.toList.take N))
    (hQ : ∀ u w', C w' → (∀ i, i < N → Fact i (u i) w') → wpList P ops Q (ops.toList.drop N) (F u) w') : (Code.region id ops true).wp P Q (F u0) w := by
  have getD_eq : ∀ (listed : Array Bool) j b c, j < listed.size → listed.getD j b = listed.getD j c := fun listed j b c h => by simp [Array.getD, h]
  refine wp_region_any hm ?_
  have main : ∀ (fuel : Nat) (listed : Array Bool) (a : Act) (w : World), listed.toList.count false ≤ fuel → listed.size = ops.size → (∀ i o, ops[i]? = some o → listed.getD i false = true → ∀ j, waits o j = true → listed.getD j false = true) → (∀ j, N ≤ j → listed.getD j false = false) → C w →
      (∃ u, a = F u ∧ ∀ i, listed.getD i false = true → Fact i (u i) w) → wpAny P .any ops Q fuel listed a w := by
    intro fuel
    induction fuel with
    | zero =>
      intro listed a w hc hs _ hlo _ _
      exfalso
      have h0 := hlo N (Nat.le_refl _)
      have hlt : N < listed.size := by omega
      have : false ∈ listed.toList := by
        have h1 : listed[N] = false := by simpa [Array.getD, hlt] using h0
        rw [← h1]
        exact Array.mem_toList_iff.2 (Array.getElem_mem hlt)
      have := List.count_pos_iff.2 this
      omega
    | succ fuel ih =>
      intro listed a w hc hs hdc hlo hCw hex
      by_cases hall : ∀ j, j < N → listed.getD j false = true
      · obtain ⟨u, rfl, hf⟩ := hex
        refine wpAny_tail hB hT (ops.size - N) N (fuel + 1) listed (F u) w (by omega) (Nat.le_refl _) hs (fun j hj => ?_) ?_ (hQ u w hCw (fun i hi => hf i (hall i hi)))
        · by_cases hjN : j < N
          · rw [hall j hjN]; simp [hjN]
          · rw [hlo j (by omega)]; simp [hjN]
        · have hcount : ops.size - N ≤ listed.toList.count false := by
            have h1 : listed.toList = listed.toList.take N ++ listed.toList.drop N := (List.take_append_drop _ _).symm
            have h2 : (listed.toList.drop N).count false = (listed.toList.drop N).length := by
              rw [List.count_eq_length]
              intro b hb
              obtain ⟨x, hx⟩ := List.mem_iff_getElem?.1 hb
              rw [List.getElem?_drop] at hx
              have hxl : N + x < listed.size := by simpa using (List.getElem?_eq_some_iff.1 hx).1
              have h3 := hlo (N + x) (by omega)
              have h4 : listed[N + x] = b := by
                have := (List.getElem?_eq_some_iff.1 hx).2
                simpa using this
              simp only [Array.getD, hxl, dif_pos] at h3
              rw [← h4]
              exact h3.symm
            rw [h1, List.count_append, h2]
            simp
            omega
          omega
      · have hrdy : ∀ i, i ∈ Region.ready .any ops listed → i < N := by
          intro i hi
          obtain ⟨h1, o, ho, hw⟩ := mem_ready.1 hi
          rcases Nat.lt_or_ge i N with h | h
          · exact h
          · exfalso
            apply hall
            intro j hj
            have hlt : i < ops.size := (Array.getElem?_eq_some_iff.1 ho).1
            have hr := List.all_eq_true.1 hT i (List.mem_range.2 hlt)
            simp only [Bool.or_eq_true, decide_eq_true_eq] at hr
            have hr2 := List.all_eq_true.1 (hr.resolve_left (by omega)) j (List.mem_range.2 (by omega))
            refine reach_listed hdc f i j o ho (fun k hk => ?_) hr2
            rw [waits_arr] at hk
            rw [Array.any_eq_true] at hk
            obtain ⟨y, hy, h2⟩ := hk
            simp only [Bool.and_eq_true, beq_iff_eq] at h2
            rw [← h2.1]
            exact hw _ (Array.getElem_mem hy) h2.2
        refine ⟨fun h0 => ?_, fun i hi => ?_⟩
        · exfalso
          have := all_listed hB h0 N hN
          rw [getD_eq listed N true false (by omega), hlo N (Nat.le_refl _)] at this
          cases this
        · have hiN := hrdy i hi
          obtain ⟨h1, o, ho, hw0⟩ := mem_ready.1 hi
          have hw : ∀ k, waits o k = true → listed.getD k false = true := fun k hk => by
            rw [waits_arr] at hk
            rw [Array.any_eq_true] at hk
            obtain ⟨y, hy, h2⟩ := hk
            simp only [Bool.and_eq_true, beq_iff_eq] at h2
            rw [← h2.1]
            exact hw0 _ (Array.getElem_mem hy) h2.2
          obtain ⟨u, rfl, hf⟩ := hex
          have hlt : i < ops.size := (Array.getElem?_eq_some_iff.1 ho).1
          have hti : (ops.toList.take N)[i]? = some o := by rw [List.getElem?_take_of_lt hiN]; simpa using ho
          have h := allOps_at (ops.toList.take N) 0 hops i o hti
          rw [Nat.zero_add] at h
          have hcnt : (listed.setIfInBounds i true).toList.count false ≤ fuel := by
            have hil : i < listed.size := by omega
            have h2 : (listed.setIfInBounds i true).toList = listed.toList.set i true := by simp
            rw [h2]
            have hlt' : i < listed.toList.length := by simpa using hil
            have h3 : listed.toList[i]'hlt' = false := by
              rw [getD_eq listed i true false hil] at h1
              simpa [Array.getD, hil] using h1
            rw [List.count_set hlt', h3]
            have : 0 < listed.toList.count false := List.count_pos_iff.2 (by rw [← h3]; exact List.getElem_mem _)
            simp only [beq_self_eq_true, if_true, Bool.true_eq_false, beq_iff_eq, if_false]
            omega
          have hK := h.2 u w hCw (fun j hj => hf j (hw j hj)) (wpAny P .any ops Q fuel (listed.setIfInBounds i true)) (fun v w' hR hv => by
            refine ih _ _ w' hcnt (by simpa using hs) ?_ ?_ (hCR _ _ hCw hR) ⟨upd u i v, h.1 u v, fun k hk => ?_⟩
            · intro x o' ho' hx j hj
              by_cases hxi : i = x
              · subst hxi
                rw [ho] at ho'
                cases ho'
                exact getD_set_true (hw j hj)
              · rw [getD_set_ne false hxi] at hx
                exact getD_set_true (hdc x o' ho' hx j hj)
            · intro j hj
              rw [getD_set_ne false (by omega)]
              exact hlo j hj
            · unfold upd
              by_cases hki : k = i
              · subst hki
                rw [if_pos rfl]
                exact hv
              · rw [if_neg hki]
                refine hFR _ _ _ _ (hf k ?_) hR
                rwa [getD_set_ne false (Ne.symm hki)] at hk)
          unfold wpOp
          simp only [ho]
          split
          · rename_i hwt
            rw [if_pos hwt] at hK
            exact .inl hK
          · rename_i hwt
            rw [if_neg hwt] at hK
            exact hK
  refine main ops.size _ _ _ (by simp) (by simp) ?_ ?_ hC ⟨u0, rfl, ?_⟩
  · intro i o _ hi
    exfalso
    rcases Nat.lt_or_ge i ops.size with h | h
    · simp [Array.getD, h] at hi
    · simp [Array.getD, Nat.not_lt.2 h] at hi
  · intro j _
    rcases Nat.lt_or_ge j ops.size with h | h
    · simp [Array.getD, h]
    · simp [Array.getD, Nat.not_lt.2 h]
  · intro i hi
    exfalso
    rcases Nat.lt_or_ge i ops.size with h | h
    · simp [Array.getD, h] at hi
    · simp [Array.getD, Nat.not_lt.2 h] at hi

/-- The frame a, what the operations of the list write set to u k, u (k + 1), .. -/
def putAll (a : Act) : List Oper → (Nat → Value) → Nat → Act
  | [], _, _ => a
  | o :: l, u, k => putAll (a.put o.dst (u k)) l u (k + 1)
/-- Each operation of the list writes a slot, and no two the same. -/
def apartB : List Oper → Bool
  | [] => true
  | o :: l => o.dst.isSome && l.all (fun o' => o'.dst != o.dst) && apartB l

theorem put_put (a : Act) (x : Option Tmp) (v u : Value) : (a.put x v).put x u = a.put x u := by
  cases x with
  | none => rfl
  | some d =>
    show ({ tmps := (a.tmps.setIfInBounds d v).setIfInBounds d u, defers := a.defers } : Act) = { tmps := a.tmps.setIfInBounds d u, defers := a.defers }
    congr 1
    apply Array.ext_getElem?
    intro i
    by_cases h : d = i
    · subst h
      simp [Array.getElem?_setIfInBounds]
    · simp [Array.getElem?_setIfInBounds_ne h]
theorem put_self (a : Act) (d : Tmp) : a.put (some d) (a.tmps.getD d undef) = a := by
  show ({ tmps := a.tmps.setIfInBounds d (a.tmps.getD d undef), defers := a.defers } : Act) = a
  cases a with
  | mk t df =>
    congr 1
    apply Array.ext_getElem?
    intro i
    by_cases h : d = i
    · subst h
      by_cases hd : d < t.size
      · simp [hd]
      · simp [hd]
    · simp [Array.getElem?_setIfInBounds_ne h]
theorem putAll_put (a : Act) (x : Option Tmp) (v : Value) : ∀ (l : List Oper) (u : Nat → Value) (k : Nat), (∀ o ∈ l, o.dst ≠ x) → putAll (a.put x v) l u k = (putAll a l u k).put x v
  | [], _, _, _ => rfl
  | o :: l, u, k, h => by
    rw [putAll, putAll, ← putAll_put (a.put o.dst (u k)) x v l u (k + 1) (fun o' ho' => h o' (by simp [ho']))]
    rw [Act.put_comm a v (u k) (fun d hd e => h o (by simp) (by rw [hd, e]))]
theorem putAll_ext (l : List Oper) : ∀ (a : Act) (u u' : Nat → Value) (k : Nat), (∀ j, k ≤ j → j < k + l.length → u j = u' j) → putAll a l u k = putAll a l u' k := by
  induction l with
  | nil => intros; rfl
  | cons o l ih =>
    intro a u u' k h
    rw [putAll, putAll, h k (Nat.le_refl _) (by simp)]
    exact ih _ u u' (k + 1) (fun j h1 h2 => h j (by omega) (by simp; omega))
theorem putAll_upd : ∀ (l : List Oper) (a : Act) (u : Nat → Value) (k i : Nat) (o : Oper) (v : Value), apartB l = true → l[i]? = some o → (putAll a l u k).put o.dst v = putAll a l (upd u (k + i) v) k
  | [], _, _, _, _, _, _, _, h => by simp at h
  | x :: l, a, u, k, 0, o, v, hap, h => by
    simp only [List.getElem?_cons_zero, Option.some.injEq] at h
    subst h
    simp only [apartB, Bool.and_eq_true, List.all_eq_true] at hap
    have hne : ∀ o' ∈ l, o'.dst ≠ x.dst := fun o' ho' => by simpa using hap.1.2 o' ho'
    rw [putAll, putAll, ← putAll_put _ x.dst v l u (k + 1) hne, put_put]
    have e1 : upd u (k + 0) v k = v := by simp [upd]
    rw [e1]
    exact putAll_ext l _ _ _ _ (fun j h1 _ => by unfold upd; rw [if_neg (by omega)])
  | x :: l, a, u, k, i + 1, o, v, hap, h => by
    simp only [apartB, Bool.and_eq_true] at hap
    rw [putAll, putAll, putAll_upd l _ u (k + 1) i o v hap.2 (by simpa using h)]
    have e1 : upd u (k + (i + 1)) v k = u k := by unfold upd; rw [if_neg (by omega)]
    rw [e1, show k + 1 + i = k + (i + 1) from by omega]
theorem putAll_self : ∀ (l : List Oper) (a : Act) (k : Nat), apartB l = true → ∃ u, putAll a l u k = a ∧ True
  | [], a, _, _ => ⟨fun _ => undef, rfl, trivial⟩
  | o :: l, a, k, h => by
    have h' := h
    simp only [apartB, Bool.and_eq_true] at h
    obtain ⟨d, hd⟩ := Option.isSome_iff_exists.1 h.1.1
    obtain ⟨u, hu, _⟩ := putAll_self l a (k + 1) h.2
    refine ⟨upd u k (a.tmps.getD d undef), ?_, trivial⟩
    have e1 : upd u k (a.tmps.getD d undef) k = a.tmps.getD d undef := by simp [upd]
    rw [putAll, e1, hd, put_self]
    exact (putAll_ext l _ _ _ _ (fun j h1 _ => by unfold upd; rw [if_neg (by omega)])).trans hu

/-- **A region that draws its order, from whatever frame**: the first N operations in whatever order, each shown once; the others as they stand in the text. -/
theorem wp_region_drawn {id : Nat} {a : Act} {w : World} (f N : Nat) (hm : P.follows .mixedOrders = true) (hB : (backB 0 ops.toList && tailB ops f N && decide (N < ops.size) && apartB (ops.toList.take N)) = true) (R : World → World → Prop) (C : World → Prop) (Fact : Nat → Value → World → Prop)
    (hCR : ∀ w w', C w → R w w' → C w') (hFR : ∀ i v w w', Fact i v w → R w w' → Fact i v w') (hC : C { w with drawn := w.drawn + 1 })
    (hops : allOps (fun i o => ∀ u w, C w → (∀ j, waits o j = true → Fact j (u j) w) → ∀ K : Act → World → Prop, (∀ v w', R w w' → Fact i v w' → K ((putAll a (ops.toList.take N) u 0).put o.dst v) w') →
      if Region.wanted o (yielded ops (putAll a (ops.toList.take N) u 0).tmps) then o.wp P (putAll a (ops.toList.take N) u 0) w K Q else K ((putAll a (ops.toList.take N) u 0).put o.dst undef) w) 0 (ops.toList.take N))
    (hQ : ∀ u w', C w' → (∀ i, i < N → Fact i (u i) w') → wpList P ops Q (ops.toList.drop N) (putAll a (ops.toList.take N) u 0) w') : (Code.region id ops true).wp P Q a w := by
  simp only [Bool.and_eq_true, decide_eq_true_eq] at hB
  obtain ⟨⟨⟨h1, h2⟩, h3⟩, h4⟩ := hB
  obtain ⟨u0, hu0, _⟩ := putAll_self (ops.toList.take N) a 0 h4
  have main := wp_region_free_tail (P := P) (ops := ops) (Q := Q) (id := id) (w := w) f N hm h1 h2 h3 R C (fun u => putAll a (ops.toList.take N) u 0) Fact u0 hCR hFR hC ?_ hQ
  · rw [hu0] at main
    exact main
  · have conv : ∀ (l : List Oper) (k : Nat) (p q : Nat → Oper → Prop), allOps p k l → (∀ i o, l[i]? = some o → p (k + i) o → q (k + i) o) → allOps q k l := by
      intro l
      induction l with
      | nil => intros; trivial
      | cons o l ih =>
        intro k p q hp hpq
        exact ⟨hpq 0 o (by simp) hp.1, ih (k + 1) p q hp.2 (fun i o' ho' h' => by
          have := hpq (i + 1) o' (by simpa using ho')
          rw [show k + (i + 1) = k + 1 + i from by omega] at this
          exact this h')⟩
    refine conv _ 0 _ _ hops (fun i o ho hp => ⟨fun u v => ?_, hp⟩)
    exact putAll_upd (ops.toList.take N) a u 0 i o v h4 ho
end
end Go.Proofs.YtjklhiifjnmedaaGreatDoor
