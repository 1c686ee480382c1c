/- More on packed blocks and on rows of strings of the call's own: how many, how long; the last one changed; one row put behind another. -/
import Derived.Test.YtabpgfcmfflceaaDoorAdd
import Derived.Laws.AppendOwnNone
namespace P12
theorem length_pieces (K : Nat) : ∀ (k : Nat) (b : Bool) (r : Bs), (pieces K k b r).length ≤ k + 1 := by
  intro k
  induction k with
  | zero => intro b r; simp [pieces]
  | succ k ih =>
    intro b r
    rw [pieces]
    split
    · simp
    · have := ih true (r.drop (K - 8)); simp; omega
theorem length_tl (K : Nat) (b : Bool) (r : Bs) : (tl K b r).length ≤ r.length + 1 := by
  unfold tl parts
  rw [List.length_map]
  exact length_pieces _ _ _ _
theorem length_addP (K : Nat) (last r : Bs) : (addP K last r).2.length ≤ r.length + 1 := by
  unfold addP
  split
  · exact length_tl _ _ _
  · split
    · simp
    · split
      · have := length_tl K true (r.drop (K - (last.length + 4)))
        simp at this ⊢
        omega
      · exact length_tl _ _ _
theorem addP_nil (K : Nat) (r : Bs) : (addP K [] r).1 = [] := by unfold addP; rw [if_pos rfl]
theorem stepP_nil (K : Nat) (r : Bs) : stepP K [] r = [] ++ (addP K [] r).2 := by
  unfold stepP putP
  simp [addP_nil]
theorem stepP_stay {K : Nat} {out : List Bs} {last r : Bs} (h : out.getLast? = some last) (hl : last ≠ []) (hc : (addP K last r).1 = []) : stepP K out r = out ++ (addP K last r).2 := by
  obtain ⟨l, rfl⟩ : ∃ l, out = l ++ [last] := ⟨out.dropLast, by
    have hne : out ≠ [] := fun e => by rw [e] at h; cases h
    rw [List.getLast?_eq_some_getLast hne] at h
    simp only [Option.some.injEq] at h
    rw [← h, List.dropLast_concat_getLast hne]⟩
  unfold stepP putP
  rw [List.getLast?_concat, List.dropLast_concat, Option.getD_some, if_pos hc, if_neg hl]
  simp
theorem stepP_set {K : Nat} {out : List Bs} {last r : Bs} (h : out.getLast? = some last) (hc : (addP K last r).1 ≠ []) : stepP K out r = out.set (out.length - 1) (addP K last r).1 ++ (addP K last r).2 := by
  obtain ⟨l, rfl⟩ : ∃ l, out = l ++ [last] := ⟨out.dropLast, by
    have hne : out ≠ [] := fun e => by rw [e] at h; cases h
    rw [List.getLast?_eq_some_getLast hne] at h
    simp only [Option.some.injEq] at h
    rw [← h, List.dropLast_concat_getLast hne]⟩
  unfold stepP putP
  rw [List.getLast?_concat, List.dropLast_concat, Option.getD_some, if_neg hc]
  simp
theorem length_stepP (K : Nat) (out : List Bs) (r : Bs) : (stepP K out r).length ≤ out.length + (r.length + 1) := by
  rcases List.eq_nil_or_concat out with rfl | ⟨l, x, rfl⟩
  · rw [stepP_nil]
    have := length_addP K [] r
    simpa using this
  · have h := length_addP K x r
    rw [List.concat_eq_append]
    unfold stepP putP
    rw [List.getLast?_concat, List.dropLast_concat, Option.getD_some]
    simp only [List.length_append, List.length_cons, List.length_nil]
    have : (if (addP K x r).1 = [] then if x = [] then [] else [x] else [(addP K x r).1]).length ≤ 1 := by
      split
      · split <;> simp
      · simp
    omega
theorem length_packP {K L : Nat} : ∀ (rs : List Bs), (∀ r ∈ rs, r.length ≤ L) → (packP K rs).length ≤ (L + 1) * rs.length := by
  have key : ∀ (n : Nat) (rs : List Bs), rs.length = n → (∀ r ∈ rs, r.length ≤ L) → (packP K rs).length ≤ (L + 1) * rs.length := by
    intro n
    induction n with
    | zero => intro rs hn _; rw [List.eq_nil_of_length_eq_zero hn]; simp [packP]
    | succ n ih =>
      intro rs hn h
      rcases List.eq_nil_or_concat rs with rfl | ⟨qs, q, rfl⟩
      · simp at hn
      · rw [List.concat_eq_append] at hn h ⊢
        have h1 := ih qs (by simpa using hn) (fun r hr => h r (by simp [hr]))
        have h2 := length_stepP K (packP K qs) q
        have h3 := h q (by simp)
        rw [packP_snoc, List.length_append, List.length_singleton, Nat.mul_add]
        omega
  exact fun rs => key _ rs rfl
/-- How much packing the records can take: a bound on the blocks. -/
def total (rs : List Bs) : Nat := (rs.map fun r => r.length + 1).sum
theorem total_snoc (rs : List Bs) (r : Bs) : total (rs ++ [r]) = total rs + (r.length + 1) := by simp [total]
theorem total_take (rs : List Bs) (k : Nat) : total (rs.take k) ≤ total rs := by
  have h : rs = rs.take k ++ rs.drop k := (List.take_append_drop k rs).symm
  have : total rs = total (rs.take k) + total (rs.drop k) := by
    unfold total
    rw [← List.sum_append, ← List.map_append, ← h]
  omega
theorem length_total (rs : List Bs) : rs.length ≤ total rs := by
  induction rs with
  | nil => simp
  | cons r rs ih => simp [total] at ih ⊢; omega
theorem total_le {rs : List Bs} {M : Nat} (h : ∀ r ∈ rs, r.length ≤ M) : total rs ≤ (M + 1) * rs.length := by
  induction rs with
  | nil => simp [total]
  | cons r rs ih =>
    have h1 := ih (fun x hx => h x (by simp [hx]))
    have h2 := h r (by simp)
    simp only [total, List.map_cons, List.sum_cons, List.length_cons, Nat.mul_add] at h1 ⊢
    omega
theorem packP_blocks {L K : Nat} (hK : 9 ≤ K ∧ K ≤ 1024) {rs : List Bs} (h : ∀ r ∈ rs, r.length ≤ L) : ∀ b ∈ packP K rs, 8 ≤ b.length ∧ b.length ≤ K := by
  rw [packP_eq hK rs h]
  have hinv := packS_inv (L := L) hK.1 h
  intro b hb
  obtain ⟨g, hg, rfl⟩ := List.mem_map.1 hb
  have hg := hinv.group g hg
  have hs := hg.small
  rw [length_block (by omega)]
  refine ⟨?_, hs⟩
  unfold size
  match g, hg.ne with
  | x :: g', _ => rw [fm_cons, List.length_append, length_form]; omega
end P12
namespace Go.Proofs.YtabpgfcmfflceaaDoor
open Go.RowKit P12

theorem take_snoc {α : Type} {rs : List α} {k : Nat} {r : α} (h : rs[k]? = some r) : rs.take (k + 1) = rs.take k ++ [r] := by
  rw [List.take_add_one, h]
  rfl
section
variable {w w' : World} {B : Nat} {e : TypeId} {v : Value} {ss : List Bs}
theorem OwnS.row (h : OwnS w B e v ss) (hne : ss ≠ []) : ∃ g c, v = .slice (some ⟨g, 0, none⟩) ss.length c ∧ B ≤ g ∧ (∀ j s, ss[j]? = some s → w.cell? ⟨g, j, none⟩ = some (.string ⟨s.toArray⟩)) ∧ (∀ j, w.frozen? ⟨g, j, none⟩ = false) ∧ ss.length ≤ maxLen := by
  rcases h.2 with ⟨rfl, h0⟩ | ⟨g, cap, cur, rfl, hb, hg, h1, h2, _⟩
  · exact absurd (List.eq_nil_of_length_eq_zero h0) hne
  · refine ⟨g, cap, rfl, hb, fun j s hj => ?_, fun j => World.ownsRow.frozenAt h j, Nat.le_trans h1 h2⟩
    have hl := (List.getElem?_eq_some_iff.1 hj).1
    rw [World.ownsRow.cellAt h j (by omega), List.getElem?_map, hj]
    rfl
theorem OwnS.stored {g n c : Nat} (h : OwnS w B e (.slice (some ⟨g, 0, none⟩) n c) ss) (hn : n = ss.length) (j : Nat) (s : Bs) : OwnS (w.setCell ⟨g, j, none⟩ (.string ⟨s.toArray⟩)) B e (.slice (some ⟨g, 0, none⟩) n c) (ss.set j s) := by
  subst hn
  have := (World.ownsRow.stored h j (.string ⟨s.toArray⟩)).1
  unfold OwnS
  rw [List.length_set, List.map_set]
  exact this
theorem OwnS.apart {B' : Nat} {v' : Value} {tt : List Bs} (h : OwnS w B e v ss) (h' : OwnS w' B' e v' tt) (hB : w.heap.size ≤ B') : v.ownBlock = none ∨ v.ownBlock ≠ v'.ownBlock := by
  by_cases hn : v.ownBlock = none
  · exact .inl hn
  · obtain ⟨k, hk⟩ := Option.ne_none_iff_exists'.1 hn
    refine .inr fun e => ?_
    have h1 := (h.lt k hk).2
    have h2 := (h'.lt k (by rw [← e]; exact hk)).1
    omega
end

/-- One row of the call's own put behind another. -/
theorem wpList_append_owns {P : Program} {w : World} {ops : Array Oper} {rest : List Oper} {o : Oper} {a : Act} {Q : Exit → Act → World → Prop} (hgd : o.guard = none) (s x : Operand) (t : TypeId)
    (ho : o.op = .call { callee := .builtin .append, args := #[s, x], argTypes := #[t, t] })
    (base : Nat) (e : TypeId) (i : TypeInfo) (z : Value) (ht : P.underlying t = some (.slice e)) (hi : P.info? e = some i) (hz : i.zero = some z)
    (hsize : i.size = 1) (hby : i.bytes = 16) (hzs : z.cells.size = 1)
    (v : Value) (ss : List Bs) (hs : a.eval s = v) (hown : OwnS w base e v ss) (v2 : Value) (B2 : Nat) (tt : List Bs) (hx : a.eval x = v2) (hown2 : OwnS w B2 e v2 tt)
    (hlen : ss.length + tt.length ≤ 1000000) (hbase : base ≤ w.heap.size)
    (h : ∀ v' w', OwnS w' base e v' (ss ++ tt) → Below base w w' → w.grownBy w' v.ownBlock → (v'.ownBlock = v.ownBlock ∨ v'.ownBlock = some w.heap.size) → wpList P ops Q rest (a.put o.dst v') w') :
    wpList P ops Q (o :: rest) a w := by
  by_cases ht0 : tt = []
  · subst ht0
    rcases hown2.2 with ⟨rfl, _⟩ | ⟨g, cap, cur, rfl, _, hg, h1, h2, _⟩
    · refine wpList_append_own_none hgd s x t ho base e i 1 ht hi v ss.length _ hs hown hx ?_
      exact h v w (by simpa using hown) (Below.refl _ _) ⟨rfl, rfl, rfl, Nat.le_refl _, fun _ _ _ => rfl⟩ (.inl rfl)
    · exact wpList_append_strs hgd s x t ho base e i z ht hi hz hsize hby hzs v ss hs hown [] g 0 _ cap hx (StrsAt.of_own hown2) (by simpa using hlen) hbase h
  · obtain ⟨g, c, rfl, _, _, _, _⟩ := hown2.row ht0
    exact wpList_append_strs hgd s x t ho base e i z ht hi hz hsize hby hzs v ss hs hown tt g 0 _ c hx (StrsAt.of_own hown2) hlen hbase h
end Go.Proofs.YtabpgfcmfflceaaDoor
