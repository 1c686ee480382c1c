/- The two loops of EnqueueFair and the ones of EnqueueMoves, in plain Lean. -/
import Derived.Test.YtojbddcbnnbklaaGreatDoorEnqF
namespace P43
theorem inT_held {t : T} {o : Int} (h : heldP t o ≠ []) : inT t o = true := by
  obtain ⟨c, hc, rfl, _⟩ := held_some h
  simp only [inT, decide_eq_true_eq, ids_append]
  exact List.mem_append_left _ (mem_ids hc)
/-- What holds while EnqueueFair lets the holders go: 'L' are the owners that were met. -/
structure FairA (t0 t : T) (L : List Int) : Prop where
  fr : Fr t0 t
  gone : ∀ x ∈ t0.hs, x.ns ≠ [] → x.id ∈ L → x ∉ t.hs
theorem FairA.start {t : T} (i : Inv t) : FairA t t [] := ⟨Fr.start i, fun _ _ _ h => by cases h⟩
theorem FairA.free {t0 t : T} {L : List Int} (f : FairA t0 t L) (i0 : Inv t0) {o : Int} (h : heldP t o ≠ []) : FairA t0 (releaseP t o).1 (L ++ [o]) := by
  have e : (releaseP t o).1 = (release t o).1 := by unfold releaseP; rw [if_pos (inT_held h)]
  rw [e]
  obtain ⟨h1, h2, _, h4, _⟩ := f.fr.release i0 o
  refine ⟨h1, fun x hx hn hm hxh => ?_⟩
  rcases List.mem_append.1 hm with hm | hm
  · exact f.gone x hx hn hm (h4 x hxh hx)
  · exact h2 x hxh (List.mem_singleton.1 hm)
theorem FairA.pass {t0 t : T} {L : List Int} (f : FairA t0 t L) {o : Int} (h : heldP t o = []) : FairA t0 t (L ++ [o]) := by
  refine ⟨f.fr, fun x hx hn hm hxh => ?_⟩
  rcases List.mem_append.1 hm with hm | hm
  · exact f.gone x hx hn hm hxh
  · rw [← List.mem_singleton.1 hm, held_mem f.fr.inv hxh] at h
    exact hn h
/-- .. and then those that waited ahead. -/
structure FairB (t0 t : T) (k : Nat) : Prop where
  fr : Fr t0 t
  gone : ∀ x ∈ t0.hs, x.ns ≠ [] → x ∉ t.hs
  pre : ∀ x ∈ t0.ws.take k, x ∉ t.hs ++ t.ws
theorem FairB.start {t0 t : T} {L : List Int} (f : FairA t0 t L) (h : ∀ x ∈ t0.hs, x.id ∈ L) : FairB t0 t 0 := ⟨f.fr, fun x hx hn => f.gone x hx hn (h x hx), by simp⟩
theorem FairB.step {t0 t : T} {k : Nat} (f : FairB t0 t k) (i0 : Inv t0) {x : Cl} (hx : t0.ws[k]? = some x) : FairB t0 (releaseP t x.id).1 (k + 1) := by
  have htk : t0.ws.take (k + 1) = t0.ws.take k ++ [x] := by rw [List.take_add_one, hx]; rfl
  unfold releaseP
  split
  · obtain ⟨h1, h2, h3, h4, h5⟩ := f.fr.release i0 x.id
    refine ⟨h1, fun y hy hn hyh => f.gone y hy hn (h4 y hyh hy), fun y hy hyt => ?_⟩
    rw [htk] at hy
    rcases List.mem_append.1 hy with hy | hy
    · exact f.pre y hy (h5 y hyt)
    · rw [List.mem_singleton.1 hy] at hyt
      rcases List.mem_append.1 hyt with h | h
      · exact h2 x h rfl
      · exact h3 x h rfl
  · rename_i hin
    refine ⟨f.fr, f.gone, fun y hy hyt => ?_⟩
    rw [htk] at hy
    rcases List.mem_append.1 hy with hy | hy
    · exact f.pre y hy hyt
    · rw [List.mem_singleton.1 hy] at hyt
      apply hin
      simp only [inT, decide_eq_true_eq]
      exact mem_ids hyt
theorem split_k {α : Type} {l : List α} {k : Nat} {x : α} (h : l[k]? = some x) : l = l.take k ++ x :: l.drop (k + 1) := by
  obtain ⟨hk, e⟩ := List.getElem?_eq_some_iff.1 h
  rw [← e, ← List.drop_eq_getElem_cons hk, List.take_append_drop]
theorem FairB.done {t0 t : T} {k : Nat} (f : FairB t0 t k) (i0 : Inv t0) {x : Cl} (hx : t0.ws[k]? = some x) : x.id ∉ ids t.ws := f.fr.done i0 (split_k hx) f.gone f.pre
theorem blocks_none {t : T} {o : Int} (h : o ∉ ids t.ws) : blocksP t o = [] := by
  unfold blocksP
  rw [cutAt_none h]
/-- What EnqueueMoves collects: the owners met that hold something, each once. -/
structure Col (t : T) (L next : List Int) : Prop where
  once : next.Nodup
  all : ∀ n, n ∈ next ↔ n ∈ L ∧ heldP t n ≠ []
theorem Col.start (t : T) : Col t [] [] := ⟨by simp, by simp⟩
theorem Col.skip {t : T} {L next : List Int} (c : Col t L next) {o : Int} (h : heldP t o = [] ∨ o ∈ next) : Col t (L ++ [o]) next := by
  refine ⟨c.once, fun n => ?_⟩
  rw [c.all, List.mem_append, List.mem_singleton]
  constructor
  · exact fun ⟨a, b⟩ => ⟨.inl a, b⟩
  · rintro ⟨a | a, b⟩
    · exact ⟨a, b⟩
    · subst a
      rcases h with h | h
      · exact absurd h b
      · exact (c.all n).1 h
theorem Col.take {t : T} {L next : List Int} (c : Col t L next) {o : Int} (h : heldP t o ≠ []) (hn : o ∉ next) : Col t (L ++ [o]) (next ++ [o]) := by
  refine ⟨?_, fun n => ?_⟩
  · rw [List.nodup_append]
    exact ⟨c.once, by simp, fun a ha b hb e => hn (by rw [← List.mem_singleton.1 hb, ← e]; exact ha)⟩
  · rw [List.mem_append, c.all, List.mem_append, List.mem_singleton]
    constructor
    · rintro (⟨a, b⟩ | a)
      · exact ⟨.inl a, b⟩
      · exact ⟨.inr a, a ▸ h⟩
    · rintro ⟨a | a, b⟩
      · exact .inl ⟨a, b⟩
      · exact .inr a
theorem Col.mv {t : T} {L next : List Int} (c : Col t L next) (i : Inv t) (h : ∀ x ∈ t.hs, x.id ∈ L) : Mv t next := by
  refine ⟨i, c.once, fun n => ?_⟩
  rw [c.all]
  constructor
  · exact fun h => h.2
  · intro hn
    obtain ⟨x, hx, rfl, _⟩ := held_some hn
    exact ⟨h x hx, hn⟩
/-- One step of EnqueueMoves by the call. -/
theorem Mv.next {t : T} {n : Int} {next : List Int} (m : Mv t (n :: next)) : (releaseP t n).2.2 = 0 ∧ Mv (releaseP t n).1 (next ++ (releaseP t n).2.1) ∧ (∀ k, k ∈ ids (releaseP t n).1.ws ↔ k ∈ ids t.ws ∧ k ∉ (releaseP t n).2.1) ∧ ((releaseP t n).1.hs ++ (releaseP t n).1.ws).length + 1 = (t.hs ++ t.ws).length := by
  obtain ⟨h1, h2⟩ := m.step
  have e : releaseP t n = ((release t n).1, (release t n).2, 0) := by unfold releaseP; rw [if_pos h1]
  rw [e]
  exact ⟨rfl, h2⟩
end P43
