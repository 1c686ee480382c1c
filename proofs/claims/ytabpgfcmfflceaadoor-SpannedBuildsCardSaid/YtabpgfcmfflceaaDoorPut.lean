/- The plain law of chapter 12, second part: a record put behind a block, all records packed, segments joined. -/
import Derived.Test.YtabpgfcmfflceaaDoorPlain
namespace P12
/-- These segments are the parts of one record. -/
def Chain : Bool → List Seg → Bs → Prop
  | _, [], _ => False
  | b, x :: xs, r => x.b = b ∧ ((x.a = false ∧ xs = [] ∧ r = x.d) ∨ (x.a = true ∧ ∃ r', r = x.d ++ r' ∧ Chain true xs r'))
theorem Chain.one (b : Bool) (r : Bs) : Chain b [⟨b, false, r⟩] r := ⟨rfl, .inl ⟨rfl, rfl, rfl⟩⟩
theorem Chain.more {b : Bool} {d r : Bs} {xs : List Seg} (h : Chain true xs r) : Chain b (⟨b, true, d⟩ :: xs) (d ++ r) := ⟨rfl, .inr ⟨rfl, r, rfl, h⟩⟩
theorem Chain.last : ∀ {xs : List Seg} {b : Bool} {r : Bs}, Chain b xs r → ∃ x, xs.getLast? = some x ∧ x.a = false
  | [], _, _, h => h.elim
  | [x], _, _, h => by
    obtain ⟨_, ⟨h1, _, _⟩ | ⟨_, r', _, h2⟩⟩ := h
    · exact ⟨x, rfl, h1⟩
    · exact h2.elim
  | x :: y :: xs, _, _, h => by
    obtain ⟨_, ⟨_, h1, _⟩ | ⟨_, r', _, h2⟩⟩ := h
    · cases h1
    · obtain ⟨z, hz, ha⟩ := Chain.last h2
      exact ⟨z, by rw [List.getLast?_cons_cons]; exact hz, ha⟩
theorem parts_chain {K : Nat} (hK : 9 ≤ K) : ∀ (n : Nat) (b : Bool) (r : Bs), r.length ≤ n → Chain b (parts K b r) r := by
  intro n
  induction n with
  | zero =>
    intro b r h
    rw [parts_one (by omega)]
    exact Chain.one b r
  | succ n ih =>
    intro b r h
    by_cases hr : r.length ≤ K - 8
    · rw [parts_one hr]
      exact Chain.one b r
    · rw [parts_more hK (by omega)]
      have := (ih true (r.drop (K - 8)) (by simp; omega)).more (b := b) (d := r.take (K - 8))
      rwa [List.take_append_drop] at this
/-- Each part fills a block or is the last one. -/
theorem parts_group {K L : Nat} (hK : 9 ≤ K) : ∀ (n : Nat) (b : Bool) (r : Bs), r.length ≤ n → r.length ≤ L → (r = [] → b = false) → ∀ x ∈ parts K b r, Group L K [x] := by
  intro n
  induction n with
  | zero =>
    intro b r h hL he x hx
    rw [parts_one (by omega)] at hx
    simp only [List.mem_singleton] at hx
    subst hx
    have hr : r = [] := List.eq_nil_of_length_eq_zero (by omega)
    refine ⟨by simp, by rw [size_one]; simp only; omega, ?_, by simp, by simp, ?_⟩
    · intro x hx
      simp only [List.mem_singleton] at hx
      subst hx
      exact ⟨hL, fun e => ⟨he e, rfl⟩⟩
    · intro x hx ha
      simp only [List.getLast?_singleton, Option.some.injEq] at hx
      subst hx
      cases ha
  | succ n ih =>
    intro b r h hL he x hx
    by_cases hr : r.length ≤ K - 8
    · rw [parts_one hr] at hx
      simp only [List.mem_singleton] at hx
      subst hx
      refine ⟨by simp, by rw [size_one]; simp only; omega, ?_, by simp, by simp, ?_⟩
      · intro x hx
        simp only [List.mem_singleton] at hx
        subst hx
        exact ⟨hL, fun e => ⟨he e, rfl⟩⟩
      · intro x hx ha
        simp only [List.getLast?_singleton, Option.some.injEq] at hx
        subst hx
        cases ha
    · rw [parts_more hK (by omega)] at hx
      rcases List.mem_cons.1 hx with rfl | hx
      · have hl : (r.take (K - 8)).length = K - 8 := by simp; omega
        refine ⟨by simp, by rw [size_one]; simp only [hl]; omega, ?_, by simp, by simp, ?_⟩
        · intro x hx
          simp only [List.mem_singleton] at hx
          subst hx
          refine ⟨by simp only [hl]; omega, fun e => ?_⟩
          have : (r.take (K - 8)).length = 0 := by rw [show r.take (K - 8) = [] from e]; rfl
          omega
        · intro x hx _
          simp only [List.getLast?_singleton, Option.some.injEq] at hx
          subst hx
          rw [size_one]
          simp only [hl]
          omega
      · refine ih true (r.drop (K - 8)) (by simp; omega) (by simp; omega) (fun e => ?_) x hx
        have := congrArg List.length e
        simp at this
        omega
/-- All parts but the last one fill their block. -/
theorem parts_full {K : Nat} (hK : 9 ≤ K) : ∀ (n : Nat) (b : Bool) (r : Bs), r.length ≤ n → ∀ x ∈ (parts K b r).dropLast, size [x] = K := by
  intro n
  induction n with
  | zero =>
    intro b r h x hx
    rw [parts_one (by omega)] at hx
    simp at hx
  | succ n ih =>
    intro b r h x hx
    by_cases hr : r.length ≤ K - 8
    · rw [parts_one hr] at hx
      simp at hx
    · rw [parts_more hK (by omega)] at hx
      have hne : parts K true (r.drop (K - 8)) ≠ [] := by
        intro e
        have := parts_chain hK _ true (r.drop (K - 8)) (Nat.le_refl _)
        rw [e] at this
        exact this
      rw [List.dropLast_cons_of_ne_nil hne] at hx
      rcases List.mem_cons.1 hx with rfl | hx
      · rw [size_one]
        simp
        omega
      · exact ih true (r.drop (K - 8)) (by simp; omega) x hx

/-- A record put behind the last block (empty: there is none): the blocks from this one on. -/
def putS (K : Nat) (g : List Seg) (r : Bs) : List (List Seg) :=
  if g = [] then (parts K false r).map ([·])
  else if size g + 4 + r.length ≤ K then [g ++ [⟨false, false, r⟩]]
  else if size g + 4 < K then (g ++ [⟨false, true, r.take (K - (size g + 4))⟩]) :: (parts K true (r.drop (K - (size g + 4)))).map ([·])
  else g :: (parts K false r).map ([·])
theorem flatten_ones (xs : List Seg) : (xs.map ([·])).flatten = xs := by
  induction xs with
  | nil => rfl
  | cons x xs ih => simp [ih]
theorem putS_chain {K : Nat} (hK : 9 ≤ K) (g : List Seg) (r : Bs) : ∃ ys, (putS K g r).flatten = g ++ ys ∧ Chain false ys r := by
  unfold putS
  split
  · rename_i hg
    exact ⟨_, by rw [flatten_ones, hg]; rfl, parts_chain hK _ _ _ (Nat.le_refl _)⟩
  · split
    · exact ⟨_, by simp, Chain.one false r⟩
    · split
      · refine ⟨_, by rw [List.flatten_cons, flatten_ones, List.append_assoc], ?_⟩
        have := (parts_chain hK _ true (r.drop (K - (size g + 4))) (Nat.le_refl _)).more (b := false) (d := r.take (K - (size g + 4)))
        rwa [List.take_append_drop] at this
      · exact ⟨_, by rw [List.flatten_cons, flatten_ones], parts_chain hK _ _ _ (Nat.le_refl _)⟩
theorem putS_ne {K : Nat} (hK : 9 ≤ K) (g : List Seg) (r : Bs) : putS K g r ≠ [] := by
  intro e
  obtain ⟨ys, h1, h2⟩ := putS_chain hK g r
  rw [e, List.flatten_nil] at h1
  have : ys = [] := by
    have := congrArg List.length h1
    simp at this
    exact List.eq_nil_of_length_eq_zero (by omega)
  rw [this] at h2
  exact h2
theorem mem_dropLast_or {α : Type} {l : List α} {x : α} (h : x ∈ l) : x ∈ l.dropLast ∨ l.getLast? = some x := by
  rcases List.eq_nil_or_concat l with rfl | ⟨l', y, rfl⟩
  · simp at h
  · simp at h ⊢
    rcases h with h | h
    · exact .inl h
    · exact .inr h.symm
/-- A segment more at the end of a group that is not full. -/
theorem Group.snoc {L K : Nat} {g : List Seg} (h : Group L K g) (hl : ∀ x, g.getLast? = some x → x.a = false) {y : Seg} (hb : y.b = false) (hs : size g + 4 + y.d.length ≤ K) (hy : y.d.length ≤ L ∧ (y.d = [] → y.a = false)) (hf : y.a = true → size g + 4 + y.d.length = K) : Group L K (g ++ [y]) := by
  refine ⟨by simp, by rw [size_snoc]; exact hs, ?_, ?_, ?_, ?_⟩
  · intro x hx
    rcases List.mem_append.1 hx with hx | hx
    · exact h.each x hx
    · simp only [List.mem_singleton] at hx
      subst hx
      exact ⟨hy.1, fun e => ⟨hb, hy.2 e⟩⟩
  · intro x hx
    rw [List.tail_append_of_ne_nil h.ne] at hx
    rcases List.mem_append.1 hx with hx | hx
    · exact h.before x hx
    · simp only [List.mem_singleton] at hx
      subst hx
      exact hb
  · intro x hx
    rw [List.dropLast_concat] at hx
    rcases mem_dropLast_or hx with hx | hx
    · exact h.after x hx
    · exact hl x hx
  · intro x hx ha
    rw [List.getLast?_concat] at hx
    simp only [Option.some.injEq] at hx
    subst hx
    rw [size_snoc]
    exact hf ha
theorem putS_group {L K : Nat} (hK : 9 ≤ K) {g : List Seg} (h : g = [] ∨ (Group L K g ∧ ∀ x, g.getLast? = some x → x.a = false)) {r : Bs} (hr : r.length ≤ L) : ∀ g' ∈ putS K g r, Group L K g' := by
  intro g' hg'
  unfold putS at hg'
  split at hg'
  · obtain ⟨x, hx, rfl⟩ := List.mem_map.1 hg'
    exact parts_group hK _ false r (Nat.le_refl _) hr (fun _ => rfl) x hx
  · rename_i hne
    obtain ⟨hg, hl⟩ := h.resolve_left hne
    split at hg'
    · rename_i hs
      simp only [List.mem_singleton] at hg'
      subst hg'
      exact hg.snoc hl rfl hs ⟨hr, fun _ => rfl⟩ (fun e => by cases e)
    · rename_i hs
      split at hg'
      · rename_i hs2
        have hlen : (r.take (K - (size g + 4))).length = K - (size g + 4) := by simp; omega
        rcases List.mem_cons.1 hg' with rfl | hg'
        · refine hg.snoc hl rfl (by simp only [hlen]; omega) ⟨by simp only [hlen]; omega, fun e => ?_⟩ (fun _ => by simp only [hlen]; omega)
          have : (r.take (K - (size g + 4))).length = 0 := by rw [show r.take (K - (size g + 4)) = [] from e]; rfl
          omega
        · obtain ⟨x, hx, rfl⟩ := List.mem_map.1 hg'
          refine parts_group hK _ true _ (Nat.le_refl _) (by simp; omega) (fun e => ?_) x hx
          have := congrArg List.length e
          simp at this
          omega
      · rcases List.mem_cons.1 hg' with rfl | hg'
        · exact hg
        · obtain ⟨x, hx, rfl⟩ := List.mem_map.1 hg'
          exact parts_group hK _ false r (Nat.le_refl _) hr (fun _ => rfl) x hx
theorem dropLast_map_ones (xs : List Seg) : (xs.map ([·] : Seg → List Seg)).dropLast = xs.dropLast.map ([·]) := by
  rw [List.map_dropLast]
theorem putS_full {K : Nat} (hK : 9 ≤ K) (g : List Seg) (r : Bs) : ∀ g' ∈ (putS K g r).dropLast, K ≤ size g' + 4 := by
  intro g' hg'
  unfold putS at hg'
  split at hg'
  · rw [dropLast_map_ones] at hg'
    obtain ⟨x, hx, rfl⟩ := List.mem_map.1 hg'
    have := parts_full hK _ false r (Nat.le_refl _) x hx
    omega
  · split at hg'
    · simp at hg'
    · rename_i hs
      split at hg'
      · rename_i hs2
        have hne : (parts K true (r.drop (K - (size g + 4)))).map ([·] : Seg → List Seg) ≠ [] := by
          intro e
          have := parts_chain hK _ true (r.drop (K - (size g + 4))) (Nat.le_refl _)
          rw [List.map_eq_nil_iff.1 e] at this
          exact this
        rw [List.dropLast_cons_of_ne_nil hne] at hg'
        rcases List.mem_cons.1 hg' with rfl | hg'
        · rw [size_snoc]
          simp
          omega
        · rw [dropLast_map_ones] at hg'
          obtain ⟨x, hx, rfl⟩ := List.mem_map.1 hg'
          have := parts_full hK _ true _ (Nat.le_refl _) x hx
          omega
      · have hne : (parts K false r).map ([·] : Seg → List Seg) ≠ [] := by
          intro e
          have := parts_chain hK _ false r (Nat.le_refl _)
          rw [List.map_eq_nil_iff.1 e] at this
          exact this
        rw [List.dropLast_cons_of_ne_nil hne] at hg'
        rcases List.mem_cons.1 hg' with rfl | hg'
        · omega
        · rw [dropLast_map_ones] at hg'
          obtain ⟨x, hx, rfl⟩ := List.mem_map.1 hg'
          have := parts_full hK _ false _ (Nat.le_refl _) x hx
          omega

/-- The parts of several records, one behind the other. -/
inductive Chains : List Seg → List Bs → Prop
  | nil : Chains [] []
  | snoc {xs : List Seg} {rs : List Bs} {ys : List Seg} {r : Bs} : Chains xs rs → Chain false ys r → Chains (xs ++ ys) (rs ++ [r])
/-- All records packed, as groups of segments. -/
def stepS (K : Nat) (gs : List (List Seg)) (r : Bs) : List (List Seg) := gs.dropLast ++ putS K (gs.getLast?.getD []) r
def packS (K : Nat) (rs : List Bs) : List (List Seg) := rs.foldl (stepS K) []
theorem packS_snoc (K : Nat) (rs : List Bs) (r : Bs) : packS K (rs ++ [r]) = stepS K (packS K rs) r := by simp [packS]
structure Inv (L K : Nat) (gs : List (List Seg)) (rs : List Bs) : Prop where
  group : ∀ g ∈ gs, Group L K g
  full : ∀ g ∈ gs.dropLast, K ≤ size g + 4
  last : ∀ g, gs.getLast? = some g → ∀ x, g.getLast? = some x → x.a = false
  chains : Chains gs.flatten rs
theorem Inv.nil (L K : Nat) : Inv L K [] [] := ⟨by simp, by simp, by simp, Chains.nil⟩
theorem getLast?_append_ne {α : Type} (l : List α) {m : List α} (h : m ≠ []) : (l ++ m).getLast? = m.getLast? := by
  rcases List.eq_nil_or_concat m with rfl | ⟨m', z, rfl⟩
  · exact absurd rfl h
  · rw [List.concat_eq_append, ← List.append_assoc, List.getLast?_concat, List.getLast?_concat]
theorem getLast?_flatten {gs : List (List Seg)} {g : List Seg} (h : gs.getLast? = some g) (hne : g ≠ []) : gs.flatten.getLast? = g.getLast? := by
  rcases List.eq_nil_or_concat gs with rfl | ⟨l, y, rfl⟩
  · simp at h
  · simp at h
    subst h
    rw [List.concat_eq_append, List.flatten_append, List.getLast?_append]
    rcases List.eq_nil_or_concat y with rfl | ⟨l', z, rfl⟩
    · exact absurd rfl hne
    · simp
theorem Inv.step {L K : Nat} (hK : 9 ≤ K) {gs : List (List Seg)} {rs : List Bs} (h : Inv L K gs rs) {r : Bs} (hr : r.length ≤ L) : Inv L K (stepS K gs r) (rs ++ [r]) := by
  have key : ∃ g pre, gs = pre ++ (if g = [] then [] else [g]) ∧ gs.dropLast = pre ∧ gs.getLast?.getD [] = g ∧ (g = [] ∨ (Group L K g ∧ ∀ x, g.getLast? = some x → x.a = false)) ∧ (∀ g ∈ pre, Group L K g ∧ K ≤ size g + 4) := by
    rcases List.eq_nil_or_concat gs with rfl | ⟨l, y, rfl⟩
    · exact ⟨[], [], rfl, rfl, rfl, .inl rfl, by simp⟩
    · rw [List.concat_eq_append] at h ⊢
      have hy := h.group y (by simp)
      refine ⟨y, l, by rw [if_neg hy.ne], by simp, by simp, .inr ⟨hy, h.last y (by simp)⟩, fun g hg => ⟨h.group g (by simp [hg]), h.full g (by simpa using hg)⟩⟩
  obtain ⟨g, pre, e1, e2, e3, h1, h2⟩ := key
  unfold stepS
  rw [e2, e3]
  obtain ⟨ys, hfl, hch⟩ := putS_chain hK g r
  have hne := putS_ne hK g r
  have hgr := putS_group hK h1 hr
  refine ⟨?_, ?_, ?_, ?_⟩
  · intro g' hg'
    rcases List.mem_append.1 hg' with hg' | hg'
    · exact (h2 g' hg').1
    · exact hgr g' hg'
  · intro g' hg'
    rw [List.dropLast_append_of_ne_nil hne] at hg'
    rcases List.mem_append.1 hg' with hg' | hg'
    · exact (h2 g' hg').2
    · exact putS_full hK g r g' hg'
  · intro g' hg' x hx
    rw [getLast?_append_ne _ hne] at hg'
    have hg2 := (hgr g' (List.mem_of_getLast? hg')).ne
    have hl := getLast?_flatten hg' hg2
    rw [hfl] at hl
    obtain ⟨z, hz, ha⟩ := hch.last
    have hys : ys ≠ [] := by intro e; rw [e] at hz; cases hz
    rw [getLast?_append_ne _ hys, hz, hx] at hl
    cases hl
    exact ha
  · have : (pre ++ putS K g r).flatten = gs.flatten ++ ys := by
      rw [List.flatten_append, hfl, e1, List.flatten_append]
      split
      · rename_i hg; rw [hg]; simp
      · simp
    rw [this]
    exact Chains.snoc h.chains hch
theorem packS_inv {L K : Nat} (hK : 9 ≤ K) {rs : List Bs} (h : ∀ r ∈ rs, r.length ≤ L) : Inv L K (packS K rs) rs := by
  have : ∀ (qs : List Bs) (gs : List (List Seg)) (ps : List Bs), Inv L K gs ps → (∀ r ∈ qs, r.length ≤ L) → Inv L K (qs.foldl (stepS K) gs) (ps ++ qs) := by
    intro qs
    induction qs with
    | nil => intro gs ps h _; simpa using h
    | cons q qs ih =>
      intro gs ps h hq
      have := ih (stepS K gs q) (ps ++ [q]) (h.step hK (hq q (by simp))) (fun r hr => hq r (by simp [hr]))
      simpa using this
  have h' := this rs [] [] (Inv.nil L K) h
  rw [List.nil_append] at h'
  exact h'

/-- Segments joined, behind what is there. -/
def joinGo (L : Nat) : List Bs → Bool → List Seg → Option (List Bs)
  | out, op, [] => if op = true then none else some out
  | out, op, x :: xs =>
    if x.b ≠ op then none
    else if op = true then
      if L < ((out.getLast?.getD []) ++ x.d).length then none else joinGo L (out.dropLast ++ [(out.getLast?.getD []) ++ x.d]) x.a xs
    else if L < x.d.length then none else joinGo L (out ++ [x.d]) x.a xs
def join (L : Nat) (l : List Seg) : Option (List Bs) := joinGo L [] false l
theorem joinGo_open {L : Nat} : ∀ (ys : List Seg) (o : List Bs) (p r : Bs) (zs : List Seg), Chain true ys r → (p ++ r).length ≤ L → joinGo L (o ++ [p]) true (ys ++ zs) = joinGo L (o ++ [p ++ r]) false zs := by
  intro ys
  induction ys with
  | nil => intro _ _ _ _ h; exact h.elim
  | cons y ys ih =>
    intro o p r zs h hl
    obtain ⟨hb, hc⟩ := h
    rw [List.cons_append, joinGo, if_neg (by rw [hb]; simp), if_pos rfl]
    simp only [List.getLast?_concat, Option.getD_some, List.dropLast_concat]
    rcases hc with ⟨ha, rfl, rfl⟩ | ⟨ha, r', rfl, hr'⟩
    · rw [if_neg (by omega), ha]
      rfl
    · have : (p ++ y.d).length ≤ L := by simp at hl ⊢; omega
      rw [if_neg (by omega), ha, ih o (p ++ y.d) r' zs hr' (by simpa [List.append_assoc] using hl), List.append_assoc]
theorem joinGo_chain {L : Nat} {ys : List Seg} {o : List Bs} {r : Bs} {zs : List Seg} (h : Chain false ys r) (hl : r.length ≤ L) : joinGo L o false (ys ++ zs) = joinGo L (o ++ [r]) false zs := by
  cases ys with
  | nil => exact h.elim
  | cons y ys =>
    obtain ⟨hb, hc⟩ := h
    rw [List.cons_append, joinGo, if_neg (by rw [hb]; simp), if_neg (by simp)]
    rcases hc with ⟨ha, rfl, rfl⟩ | ⟨ha, r', rfl, hr'⟩
    · rw [if_neg (by omega), ha]
      rfl
    · have : y.d.length ≤ L := by simp at hl; omega
      rw [if_neg (by omega), ha, joinGo_open ys o y.d r' zs hr' hl]
theorem join_chains {L : Nat} {xs : List Seg} {rs : List Bs} (h : Chains xs rs) (hl : ∀ r ∈ rs, r.length ≤ L) : join L xs = some rs := by
  have : ∀ {xs : List Seg} {rs : List Bs}, Chains xs rs → (∀ r ∈ rs, r.length ≤ L) → ∀ zs, joinGo L [] false (xs ++ zs) = joinGo L rs false zs := by
    intro xs rs h
    induction h with
    | nil => intro _ zs; rfl
    | snoc _ hc ih =>
      intro hl zs
      rw [List.append_assoc, ih (fun r hr => hl r (by simp [hr])), joinGo_chain hc (hl _ (by simp))]
  have := this h hl []
  rw [List.append_nil] at this
  unfold join
  rw [this]
  rfl
end P12
