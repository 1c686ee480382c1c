/- Locks of ranges in plain Lean: who waits for whom, granting from the front of the queue, and what stays true; no program in sight. -/
import Derived.Test.YtjklhiifjnmedaaGreatDoorRng
namespace P46
open P16
structure Lock where
  (unit id : Int) (r : Rng) (x : Bool)
  deriving DecidableEq
def conflict (a b : Lock) : Bool := decide (a.unit ≠ b.unit) && decide (a.id = b.id) && (a.x || b.x) && overlap a.r b.r
theorem conflict_comm (a b : Lock) : conflict a b = conflict b a := by
  have h1 : decide (a.unit ≠ b.unit) = decide (b.unit ≠ a.unit) := by rw [decide_eq_decide]; exact ne_comm
  have h2 : decide (a.id = b.id) = decide (b.id = a.id) := by rw [decide_eq_decide]; exact eq_comm
  unfold conflict
  rw [overlap_comm, Bool.or_comm, h1, h2]
theorem conflict_unit {a b : Lock} (h : conflict a b = true) : a.unit ≠ b.unit := by
  unfold conflict at h
  simp at h
  exact h.1.1.1
def own (h : List Lock) (u : Int) : List Lock := h.filter fun l => decide (l.unit = u)
/-- Lock l waits for the lock y, which came before it, where its unit holds 'o'. -/
def waitsOn (o : List Lock) (l y : Lock) : Bool := conflict y l && !(o.any fun z => conflict z y)
def blks (h pre : List Lock) (l : Lock) : List Int := (h.filter fun y => conflict y l).map (·.unit) ++ (pre.filter (waitsOn (own h l.unit) l)).map (·.unit)
theorem mem_blks {h pre : List Lock} {l : Lock} {v : Int} : v ∈ blks h pre l ↔ (∃ y ∈ h, y.unit = v ∧ conflict y l = true) ∨ (∃ y ∈ pre, y.unit = v ∧ conflict y l = true ∧ ∀ z ∈ h, z.unit = l.unit → conflict z y = false) := by
  unfold blks waitsOn own
  simp only [List.mem_append, List.mem_map, List.mem_filter, Bool.and_eq_true, Bool.not_eq_true', List.any_eq_false, decide_eq_true_eq, Bool.not_eq_true]
  constructor
  · rintro (⟨y, ⟨h1, h2⟩, h3⟩ | ⟨y, ⟨h1, h2, h4⟩, h3⟩)
    · exact .inl ⟨y, h1, h3, h2⟩
    · exact .inr ⟨y, h1, h3, h2, fun z hz hu => h4 z ⟨hz, hu⟩⟩
  · rintro (⟨y, h1, h3, h2⟩ | ⟨y, h1, h3, h2, h4⟩)
    · exact .inl ⟨y, ⟨h1, h2⟩, h3⟩
    · exact .inr ⟨y, ⟨h1, h2, fun z hz => h4 z hz.1 hz.2⟩, h3⟩
theorem blks_ne {h pre : List Lock} {l : Lock} {v : Int} (hv : v ∈ blks h pre l) : v ≠ l.unit := by
  rcases mem_blks.1 hv with ⟨y, _, rfl, hc⟩ | ⟨y, _, rfl, hc, _⟩ <;> exact conflict_unit hc

structure St where
  (h q : List Lock)
/-- Unit u waits for unit v. -/
def Edge (s : St) (u v : Int) : Prop := ∃ pre l post, s.q = pre ++ l :: post ∧ l.unit = u ∧ v ∈ blks s.h pre l
/-- Nobody waits for itself, directly or indirectly: ranks fall along the edges. -/
def Acyc (s : St) : Prop := ∃ rank : Int → Nat, ∀ u v, Edge s u v → rank v < rank u
def Ones (q : List Lock) : Prop := (q.map (·.unit)).Nodup
/-- Every waiting unit waits for somebody. -/
def Busy (s : St) : Prop := ∀ pre l post, s.q = pre ++ l :: post → blks s.h pre l ≠ []
def Compat (h : List Lock) : Prop := ∀ a ∈ h, ∀ b ∈ h, conflict a b = false

theorem Ones.split {pre post : List Lock} {l : Lock} (h : Ones (pre ++ l :: post)) : (∀ y ∈ pre, y.unit ≠ l.unit) ∧ (∀ y ∈ post, y.unit ≠ l.unit) ∧ Ones (pre ++ post) := by
  unfold Ones at *
  rw [List.map_append, List.map_cons] at h
  have h1 := List.nodup_append.1 h
  have h2 := List.nodup_cons.1 h1.2.1
  refine ⟨fun y hy e => h1.2.2 y.unit (List.mem_map.2 ⟨y, hy, rfl⟩) l.unit (by simp) e, fun y hy e => h2.1 (List.mem_map.2 ⟨y, hy, e⟩), ?_⟩
  rw [List.map_append]
  exact List.nodup_append.2 ⟨h1.1, h2.2, fun a ha b hb => h1.2.2 a ha b (List.mem_cons_of_mem _ hb)⟩
/-- Fewer edges. -/
theorem Acyc.sub {s t : St} (h : Acyc s) (he : ∀ u v, Edge t u v → Edge s u v) : Acyc t := by
  obtain ⟨rank, hr⟩ := h
  exact ⟨rank, fun u v e => hr u v (he u v e)⟩
/-- More edges, but only to one that waits for nobody. -/
theorem Acyc.sink {s t : St} {w : Int} (h : Acyc s) (he : ∀ u v, Edge t u v → Edge s u v ∨ v = w) (hw : ∀ v, ¬ Edge t w v) : Acyc t := by
  obtain ⟨rank, hr⟩ := h
  refine ⟨fun y => if y = w then 0 else rank y + 1, fun u v e => ?_⟩
  have hu : u ≠ w := fun e' => hw v (e' ▸ e)
  simp only [if_neg hu]
  split
  · omega
  · rename_i hv
    have := hr u v ((he u v e).resolve_right hv)
    omega
/-- Reached along edges. -/
inductive Reach (s : St) : Int → Int → Prop
  | refl (u : Int) : Reach s u u
  | step {u v w : Int} : Edge s u v → Reach s v w → Reach s u w
/-- More edges, out of one that none of their ends reaches. -/
theorem Acyc.source {s t : St} {w : Int} {bs : List Int} (h : Acyc s) (he : ∀ u v, Edge t u v → Edge s u v ∨ (u = w ∧ v ∈ bs)) (hb : ∀ b ∈ bs, ¬ Reach s b w) : Acyc t := by
  obtain ⟨rank, hr⟩ := h
  let M := (bs.map rank).foldr max 0 + 1
  have hM : ∀ b ∈ bs, rank b < M := by
    intro b hb
    have : ∀ l : List Nat, ∀ n ∈ l, n ≤ l.foldr max 0 := by
      intro l
      induction l with
      | nil => intro n hn; cases hn
      | cons a l ih =>
        intro n hn
        rcases List.mem_cons.1 hn with rfl | hn
        · exact Nat.le_max_left _ _
        · exact Nat.le_trans (ih n hn) (Nat.le_max_right _ _)
    have := this (bs.map rank) (rank b) (List.mem_map.2 ⟨b, hb, rfl⟩)
    omega
  classical
  refine ⟨fun y => rank y + if Reach s y w then M else 0, fun u v e => ?_⟩
  rcases he u v e with e | ⟨rfl, hv⟩
  · have h1 := hr u v e
    by_cases h2 : Reach s v w
    · have h3 : Reach s u w := .step e h2
      simp only [if_pos h2, if_pos h3]
      omega
    · simp only [if_neg h2]
      omega
  · have h1 := hb v hv
    simp only [if_neg h1, if_pos (Reach.refl (s := s) u)]
    have := hM v hv
    omega

/-- The waiting locks that wait for nobody are granted, from the front. -/
def grantGo : List Lock → List Lock → List Lock → List Int → St × List Int
  | h, pre, [], out => (⟨h, pre⟩, out)
  | h, pre, l :: rest, out => if blks h pre l = [] then grantGo (h ++ [l]) pre rest (out ++ [l.unit]) else grantGo h (pre ++ [l]) rest out
def grant (s : St) : St × List Int := grantGo s.h [] s.q []
def drop (q : List Lock) (u : Int) : List Lock := q.filter fun l => decide (l.unit ≠ u)
def cancel (s : St) (u : Int) : St × List Int := grant ⟨s.h, drop s.q u⟩
def release (s : St) (u : Int) : St × List Int := grant ⟨drop s.h u, drop s.q u⟩

/-- What holds while granting goes on. -/
structure Mid (h pre rest : List Lock) : Prop where
  acyc : Acyc ⟨h, pre ++ rest⟩
  ones : Ones (pre ++ rest)
  busy : ∀ p l q, pre = p ++ l :: q → blks h p l ≠ []
  compat : Compat h
theorem no_blks {h pre : List Lock} {l : Lock} (e : blks h pre l = []) : ∀ y ∈ h, conflict y l = false := by
  intro y hy
  cases hc : conflict y l
  · rfl
  · have : y.unit ∈ blks h pre l := mem_blks.2 (.inl ⟨y, hy, rfl, hc⟩)
    rw [e] at this
    cases this
theorem Compat.snoc {h : List Lock} {l : Lock} (hc : Compat h) (hl : ∀ y ∈ h, conflict y l = false) : Compat (h ++ [l]) := by
  have self : conflict l l = false := by unfold conflict; simp
  intro a ha b hb
  rcases List.mem_append.1 ha with ha1 | ha1 <;> rcases List.mem_append.1 hb with hb1 | hb1
  · exact hc a ha1 b hb1
  · rw [List.mem_singleton.1 hb1]
    exact hl a ha1
  · rw [List.mem_singleton.1 ha1, conflict_comm]
    exact hl b hb1
  · rw [List.mem_singleton.1 ha1, List.mem_singleton.1 hb1]
    exact self
theorem append_cons_split {α : Type} {a b c d : List α} {y : α} (h : a ++ b = c ++ y :: d) : (∃ e, a = c ++ y :: e ∧ d = e ++ b) ∨ (∃ e, c = a ++ e ∧ b = e ++ y :: d) := by
  rw [List.append_eq_append_iff] at h
  rcases h with ⟨e, h1, h2⟩ | ⟨e, h1, h2⟩
  · exact .inr ⟨e, h1, h2⟩
  · cases e with
    | nil => exact .inr ⟨[], by simpa using h1.symm, by simpa using h2.symm⟩
    | cons z e =>
      rw [List.cons_append] at h2
      simp only [List.cons.injEq] at h2
      obtain ⟨rfl, rfl⟩ := h2
      exact .inl ⟨e, h1, rfl⟩
/-- Edges of the middle of granting, by the place of the one that waits. -/
theorem edge_iff {h q : List Lock} {u v : Int} : Edge ⟨h, q⟩ u v ↔ ∃ p l r, q = p ++ l :: r ∧ l.unit = u ∧ v ∈ blks h p l := Iff.rfl
theorem split_unique {q p p' r r' : List Lock} {l l' : Lock} (ho : Ones q) (h : q = p ++ l :: r) (h' : q = p' ++ l' :: r') (hu : l.unit = l'.unit) : p = p' ∧ l = l' ∧ r = r' := by
  rw [h] at h' ho
  rcases append_cons_split h' with ⟨e, h1, h2⟩ | ⟨e, h1, h2⟩
  · exfalso
    have := ho.split
    exact this.1 l' (by rw [h1]; simp) hu.symm
  · cases e with
    | nil => simp at h1 h2; exact ⟨h1.symm, h2.1, h2.2⟩
    | cons z e =>
      rw [List.cons_append] at h2
      simp only [List.cons.injEq] at h2
      exfalso
      have := ho.split
      exact this.2.1 l' (by rw [h2.2]; simp) hu.symm
theorem blks_held {h : List Lock} {l m : Lock} (p : List Lock) {v : Int} (hv : v ∈ blks (h ++ [l]) p m) : v ∈ blks h p m ∨ v = l.unit := by
  rcases mem_blks.1 hv with ⟨y, hy, rfl, hc⟩ | ⟨y, hy, rfl, hc, hz⟩
  · rcases List.mem_append.1 hy with hy | hy
    · exact .inl (mem_blks.2 (.inl ⟨y, hy, rfl, hc⟩))
    · rw [List.mem_singleton.1 hy]; exact .inr rfl
  · exact .inl (mem_blks.2 (.inr ⟨y, hy, rfl, hc, fun z hz1 => hz z (by simp [hz1])⟩))
theorem blks_held_back {h : List Lock} {l m : Lock} {p : List Lock} (hu : l.unit ≠ m.unit) {v : Int} (hv : v ∈ blks h p m) : v ∈ blks (h ++ [l]) p m := by
  rcases mem_blks.1 hv with ⟨y, hy, rfl, hc⟩ | ⟨y, hy, rfl, hc, hz⟩
  · exact mem_blks.2 (.inl ⟨y, by simp [hy], rfl, hc⟩)
  · refine mem_blks.2 (.inr ⟨y, hy, rfl, hc, fun z hz1 hzu => ?_⟩)
    rcases List.mem_append.1 hz1 with hz1 | hz1
    · exact hz z hz1 hzu
    · rw [List.mem_singleton.1 hz1] at hzu
      exact absurd hzu hu
/-- The lock l, which waits for nobody, leaves the queue and is held. -/
theorem Mid.take {h pre rest : List Lock} {l : Lock} (m : Mid h pre (l :: rest)) (e : blks h pre l = []) : Mid (h ++ [l]) pre rest := by
  have hs := m.ones.split
  have hno := no_blks e
  refine ⟨?_, hs.2.2, ?_, m.compat.snoc hno⟩
  · refine m.acyc.sink (w := l.unit) ?_ ?_
    · rintro u v ⟨p, n, r, hq, rfl, hv⟩
      dsimp only at hq hv
      have hn : n ∈ pre ++ rest := by rw [hq]; simp
      have hnu : l.unit ≠ n.unit := by
        rcases List.mem_append.1 hn with hn | hn
        · exact fun e => hs.1 n hn e.symm
        · exact fun e => hs.2.1 n hn e.symm
      rcases blks_held p hv with hv | hv
      · left
        rcases append_cons_split hq with ⟨x, h1, h2⟩ | ⟨x, h1, h2⟩
        · exact ⟨p, n, x ++ l :: rest, by rw [h1]; simp, rfl, hv⟩
        · refine ⟨pre ++ l :: x, n, r, by rw [h2]; simp, rfl, ?_⟩
          rw [h1] at hv
          rcases mem_blks.1 hv with ⟨y, hy, rfl, hc⟩ | ⟨y, hy, rfl, hc, hz⟩
          · exact mem_blks.2 (.inl ⟨y, hy, rfl, hc⟩)
          · refine mem_blks.2 (.inr ⟨y, ?_, rfl, hc, hz⟩)
            rcases List.mem_append.1 hy with hy | hy
            · exact List.mem_append_left _ hy
            · exact List.mem_append_right _ (List.mem_cons_of_mem _ hy)
      · exact .inr hv
    · rintro v ⟨p, n, r, hq, hu, _⟩
      dsimp only at hq
      have hn : n ∈ pre ++ rest := by rw [hq]; simp
      rcases List.mem_append.1 hn with hn | hn
      · exact hs.1 n hn hu
      · exact hs.2.1 n hn hu
  · intro p n q hp hb
    have hnu : l.unit ≠ n.unit := fun e => hs.1 n (by rw [hp]; simp) e.symm
    apply m.busy p n q hp
    apply List.eq_nil_iff_forall_not_mem.2
    intro v hv
    have := blks_held_back hnu hv
    rw [hb] at this
    cases this
theorem Mid.wait {h pre rest : List Lock} {l : Lock} (m : Mid h pre (l :: rest)) (e : blks h pre l ≠ []) : Mid h (pre ++ [l]) rest := by
  refine ⟨by simpa using m.acyc, by simpa using m.ones, ?_, m.compat⟩
  intro p n q hp
  rcases append_cons_split hp with ⟨x, h1, h2⟩ | ⟨x, h1, h2⟩
  · exact m.busy p n x h1
  · cases x with
    | nil =>
      simp at h1 h2
      rw [h1, ← h2.1]
      exact e
    | cons z x =>
      have := congrArg List.length h2
      simp at this
/-- What holds of a state at any time. -/
structure Good (s : St) : Prop where
  acyc : Acyc s
  ones : Ones s.q
  busy : Busy s
  compat : Compat s.h
theorem grantGo_good : ∀ (rest h pre : List Lock) (out : List Int), Mid h pre rest → Good (grantGo h pre rest out).1
  | [], h, pre, out, m => ⟨by have := m.acyc; rwa [List.append_nil] at this, by have := m.ones; rwa [List.append_nil] at this, m.busy, m.compat⟩
  | l :: rest, h, pre, out, m => by
    rw [grantGo]
    split
    · rename_i e
      exact grantGo_good rest _ _ _ (m.take e)
    · rename_i e
      exact grantGo_good rest _ _ _ (m.wait e)
theorem grant_good {s : St} (ha : Acyc s) (ho : Ones s.q) (hc : Compat s.h) : Good (grant s).1 :=
  grantGo_good s.q s.h [] [] ⟨ha, ho, fun p l q e => by simp at e, hc⟩
theorem drop_ones {q : List Lock} (h : Ones q) (u : Int) : Ones (drop q u) := by
  unfold Ones drop at *
  exact h.sublist (List.filter_sublist.map _)
theorem drop_compat {h : List Lock} (hc : Compat h) (u : Int) : Compat (drop h u) := fun a ha b hb => hc a (List.mem_filter.1 ha).1 b (List.mem_filter.1 hb).1
theorem filter_split {α : Type} {p : α → Bool} : ∀ {q : List α} {a b : List α} {x : α}, q.filter p = a ++ x :: b → ∃ a' b', q = a' ++ x :: b' ∧ a'.filter p = a ∧ b'.filter p = b
  | [], a, b, x, h => by simp at h
  | y :: q, a, b, x, h => by
    by_cases hy : p y = true
    · rw [List.filter_cons_of_pos hy] at h
      cases a with
      | nil =>
        simp only [List.nil_append, List.cons.injEq] at h
        exact ⟨[], q, by rw [h.1]; rfl, rfl, h.2⟩
      | cons z a =>
        rw [List.cons_append] at h
        simp only [List.cons.injEq] at h
        obtain ⟨a', b', h1, h2, h3⟩ := filter_split h.2
        exact ⟨y :: a', b', by rw [h1]; rfl, by rw [List.filter_cons_of_pos hy, h2, h.1], h3⟩
    · rw [List.filter_cons_of_neg hy] at h
      obtain ⟨a', b', h1, h2, h3⟩ := filter_split h
      exact ⟨y :: a', b', by rw [h1]; rfl, by rw [List.filter_cons_of_neg hy, h2], h3⟩
/-- Locks of a unit go away: fewer edges. -/
theorem drop_acyc {s : St} (h : Acyc s) (u : Int) (h' : List Lock) (hh : h' = s.h ∨ h' = drop s.h u) : Acyc ⟨h', drop s.q u⟩ := by
  refine h.sub ?_
  rintro w v ⟨p, l, r, hq, rfl, hv⟩
  dsimp only at hq hv
  have hlu : l.unit ≠ u := by
    have : l ∈ drop s.q u := by rw [hq]; simp
    simpa using (List.mem_filter.1 this).2
  obtain ⟨p', r', h1, h2, _⟩ := filter_split hq
  refine ⟨p', l, r', h1, rfl, ?_⟩
  rcases mem_blks.1 hv with ⟨y, hy, rfl, hc⟩ | ⟨y, hy, rfl, hc, hz⟩
  · refine mem_blks.2 (.inl ⟨y, ?_, rfl, hc⟩)
    rcases hh with rfl | rfl
    · exact hy
    · exact (List.mem_filter.1 hy).1
  · refine mem_blks.2 (.inr ⟨y, ?_, rfl, hc, fun z hz1 hzu => hz z ?_ hzu⟩)
    · rw [← h2] at hy
      exact (List.mem_filter.1 hy).1
    · rcases hh with rfl | rfl
      · exact hz1
      · exact List.mem_filter.2 ⟨hz1, by rw [hzu]; simpa using hlu⟩
theorem cancel_good {s : St} (g : Good s) (u : Int) : Good (cancel s u).1 :=
  grant_good (drop_acyc g.acyc u s.h (.inl rfl)) (drop_ones g.ones u) g.compat
theorem release_good {s : St} (g : Good s) (u : Int) : Good (release s u).1 :=
  grant_good (drop_acyc g.acyc u _ (.inr rfl)) (drop_ones g.ones u) (drop_compat g.compat u)
/-- What granting leaves is part of what there was; nobody but those that waited gets a lock. -/
theorem grantGo_sub : ∀ (rest h pre : List Lock) (out : List Int), (∀ l ∈ (grantGo h pre rest out).1.q, l ∈ pre ++ rest) ∧ (∀ l ∈ (grantGo h pre rest out).1.h, l ∈ h ∨ l ∈ rest) ∧ (∀ l ∈ h, l ∈ (grantGo h pre rest out).1.h)
  | [], h, pre, out => by simp [grantGo]
  | l :: rest, h, pre, out => by
    rw [grantGo]
    split
    · obtain ⟨h1, h2, h3⟩ := grantGo_sub rest (h ++ [l]) pre (out ++ [l.unit])
      refine ⟨fun x hx => ?_, fun x hx => ?_, fun x hx => h3 x (by simp [hx])⟩
      · have := h1 x hx
        simp at this ⊢
        rcases this with this | this <;> simp [this]
      · have := h2 x hx
        simp at this ⊢
        rcases this with (this | this) | this <;> simp [this]
    · obtain ⟨h1, h2, h3⟩ := grantGo_sub rest h (pre ++ [l]) out
      refine ⟨fun x hx => ?_, fun x hx => ?_, h3⟩
      · have := h1 x hx
        simpa using this
      · have := h2 x hx
        simp at this ⊢
        rcases this with this | this <;> simp [this]
theorem cancel_not {s : St} (u : Int) : ∀ l ∈ (cancel s u).1.q, l.unit ≠ u := by
  intro l hl
  have := (grantGo_sub (drop s.q u) s.h [] []).1 l hl
  simpa using (List.mem_filter.1 (by simpa using this : l ∈ drop s.q u)).2
end P46
namespace P46
open P16
/-- Where a unit waits. -/
def idx (q : List Lock) (u : Int) : Option Nat := q.findIdx? fun l => decide (l.unit = u)
def blockers (s : St) (u : Int) : List Int :=
  match idx s.q u with
  | none => []
  | some i => match s.q[i]? with
    | none => []
    | some l => blks s.h (s.q.take i) l
theorem idx_some {q : List Lock} {u : Int} {i : Nat} (h : idx q u = some i) : ∃ l, q[i]? = some l ∧ l.unit = u ∧ q = q.take i ++ l :: q.drop (i + 1) ∧ ∀ y ∈ q.take i, y.unit ≠ u := by
  unfold idx at h
  rw [List.findIdx?_eq_some_iff_getElem] at h
  obtain ⟨hi, h1, h2⟩ := h
  refine ⟨q[i], List.getElem?_eq_getElem hi, by simpa using h1, ?_, ?_⟩
  · rw [← List.drop_eq_getElem_cons hi, List.take_append_drop]
  · intro y hy
    obtain ⟨j, hj, rfl⟩ := List.mem_iff_getElem.1 hy
    rw [List.getElem_take]
    have hj' : j < i := by simp at hj; omega
    simpa using h2 j hj'
theorem idx_none {q : List Lock} {u : Int} : idx q u = none ↔ ∀ l ∈ q, l.unit ≠ u := by
  unfold idx
  rw [List.findIdx?_eq_none_iff]
  simp
theorem edge_blockers {s : St} (ho : Ones s.q) {u v : Int} : Edge s u v ↔ v ∈ blockers s u := by
  unfold blockers
  constructor
  · rintro ⟨p, l, r, hq, rfl, hv⟩
    cases hi : idx s.q l.unit with
    | none => exact absurd rfl (idx_none.1 hi l (by rw [hq]; simp))
    | some i =>
      obtain ⟨l', h1, h2, h3, _⟩ := idx_some hi
      obtain ⟨e1, e2, _⟩ := split_unique ho hq h3 h2.symm
      dsimp only
      rw [h1]
      dsimp only
      rw [← e1, ← e2]
      exact hv
  · intro h
    cases hi : idx s.q u with
    | none => rw [hi] at h; cases h
    | some i =>
      rw [hi] at h
      dsimp only at h
      obtain ⟨l, h1, h2, h3, _⟩ := idx_some hi
      rw [h1] at h
      exact ⟨_, l, _, h3, h2, h⟩
open Classical in
/-- One of some units is a unit, or waits for it, directly or indirectly. -/
noncomputable def reaches (s : St) (bs : List Int) (u : Int) : Bool := decide (∃ b ∈ bs, Reach s b u)
theorem reaches_iff {s : St} {bs : List Int} {u : Int} : reaches s bs u = true ↔ ∃ b ∈ bs, Reach s b u := by unfold reaches; simp
def covered (h : List Lock) (l : Lock) : Bool := h.any fun y => decide (y.unit = l.unit) && decide (y.id = l.id) && (y.x || !l.x) && covers y.r l.r
def numB (n : Int) : Bool := decide (1 ≤ n) && decide (n ≤ 1099511627776)
def validL (l : Lock) : Bool := numB l.unit && numB l.id && decide (l.r.low.length ≤ 32) && decide (l.r.high.length ≤ 32) && !emp l.r
/-- The part of a request behind the cancelling. -/
noncomputable def ask (s : St) (l : Lock) : St × Int :=
  if blks s.h s.q l = [] then (⟨s.h ++ [l], s.q⟩, 0)
  else if reaches s (blks s.h s.q l) l.unit = true then (s, 16)
  else (⟨s.h, s.q ++ [l]⟩, 15)
noncomputable def request (s : St) (l : Lock) : St × Int :=
  if validL l = false then (s, 1)
  else if covered s.h l = true then (s, 0)
  else match idx s.q l.unit with
  | some i => if s.q[i]? = some l then (s, 15) else ask (cancel s l.unit).1 l
  | none => ask s l
theorem ask_good {s : St} (g : Good s) {l : Lock} (hq : ∀ y ∈ s.q, y.unit ≠ l.unit) : Good (ask s l).1 := by
  unfold ask
  split
  · rename_i e
    have hno := no_blks e
    refine ⟨?_, g.ones, ?_, g.compat.snoc hno⟩
    · refine g.acyc.sink (w := l.unit) ?_ ?_
      · rintro u v ⟨p, n, r, h1, rfl, hv⟩
        dsimp only at h1 hv
        rcases blks_held p hv with hv | hv
        · exact .inl ⟨p, n, r, h1, rfl, hv⟩
        · exact .inr hv
      · rintro v ⟨p, n, r, h1, hu, _⟩
        dsimp only at h1
        exact hq n (by rw [h1]; simp) hu
    · intro p n r h1 hb
      dsimp only at h1 hb
      have hnu : l.unit ≠ n.unit := fun e => hq n (by rw [h1]; simp) e.symm
      apply g.busy p n r h1
      apply List.eq_nil_iff_forall_not_mem.2
      intro v hv
      have := blks_held_back hnu hv
      rw [hb] at this
      cases this
  · rename_i e
    split
    · exact g
    · rename_i hr
      have hr' : ∀ b ∈ blks s.h s.q l, ¬ Reach s b l.unit := fun b hb hR => hr (reaches_iff.2 ⟨b, hb, hR⟩)
      refine ⟨?_, ?_, ?_, g.compat⟩
      · refine g.acyc.source (w := l.unit) (bs := blks s.h s.q l) ?_ hr'
        rintro u v ⟨p, n, r, h1, rfl, hv⟩
        dsimp only at h1 hv
        rcases append_cons_split h1 with ⟨x, h2, _⟩ | ⟨x, h2, h3⟩
        · exact .inl ⟨p, n, x, h2, rfl, hv⟩
        · cases x with
          | nil =>
            simp at h2 h3
            obtain ⟨rfl, _⟩ := h3
            rw [h2] at hv
            exact .inr ⟨rfl, hv⟩
          | cons z x =>
            have := congrArg List.length h3
            simp at this
      · unfold Ones
        have := g.ones
        unfold Ones at this
        rw [List.map_append]
        refine List.nodup_append.2 ⟨this, by simp, ?_⟩
        intro a ha b hb e
        simp only [List.map_cons, List.map_nil, List.mem_singleton] at hb
        obtain ⟨y, hy, rfl⟩ := List.mem_map.1 ha
        exact hq y hy (e.trans hb)
      · intro p n r h1
        dsimp only at h1
        rcases append_cons_split h1 with ⟨x, h2, _⟩ | ⟨x, h2, h3⟩
        · exact g.busy p n x h2
        · cases x with
          | nil =>
            simp at h2 h3
            obtain ⟨rfl, _⟩ := h3
            rw [h2]
            exact e
          | cons z x =>
            have := congrArg List.length h3
            simp at this
theorem request_good {s : St} (g : Good s) (l : Lock) : Good (request s l).1 := by
  unfold request
  split
  · exact g
  · split
    · exact g
    · split
      · split
        · exact g
        · exact ask_good (cancel_good g _) (cancel_not _)
      · rename_i hi
        exact ask_good g (idx_none.1 hi)
/-- An act: 0 asks, 1 cancels, 2 releases. -/
noncomputable def act (s : St) (k : Int) (l : Lock) : St × Int × List Int :=
  if k.tmod 3 = 1 then ((cancel s l.unit).1, 0, (cancel s l.unit).2)
  else if k.tmod 3 = 2 then ((release s l.unit).1, 0, (release s l.unit).2)
  else ((request s l).1, (request s l).2, [])
theorem act_good {s : St} (g : Good s) (k : Int) (l : Lock) : Good (act s k l).1 := by
  unfold act
  split
  · exact cancel_good g _
  · split
    · exact release_good g _
    · exact request_good g l
theorem good_nil : Good ⟨[], []⟩ := ⟨⟨fun _ => 0, by rintro u v ⟨p, l, r, h, _⟩; simp at h⟩, by simp [Ones], by intro p l r h; simp at h, by intro a ha; cases ha⟩
end P46
namespace P46
open P16
/-- All locks of a state are valid. -/
def Valids (s : St) : Prop := (∀ l ∈ s.h, validL l = true) ∧ ∀ l ∈ s.q, validL l = true
theorem grantGo_valids {rest h pre : List Lock} {out : List Int} (h1 : ∀ l ∈ h, validL l = true) (h2 : ∀ l ∈ pre ++ rest, validL l = true) : Valids (grantGo h pre rest out).1 := by
  obtain ⟨g1, g2, _⟩ := grantGo_sub rest h pre out
  exact ⟨fun l hl => (g2 l hl).elim (h1 l) (fun hr => h2 l (by simp [hr])), fun l hl => h2 l (g1 l hl)⟩
theorem cancel_valids {s : St} (v : Valids s) (u : Int) : Valids (cancel s u).1 :=
  grantGo_valids v.1 (fun l hl => v.2 l (List.mem_filter.1 (by simpa using hl : l ∈ drop s.q u)).1)
theorem release_valids {s : St} (v : Valids s) (u : Int) : Valids (release s u).1 :=
  grantGo_valids (fun l hl => v.1 l (List.mem_filter.1 hl).1) (fun l hl => v.2 l (List.mem_filter.1 (by simpa using hl : l ∈ drop s.q u)).1)
theorem ask_valids {s : St} (v : Valids s) {l : Lock} (hl : validL l = true) : Valids (ask s l).1 := by
  have snoc : ∀ {a : List Lock}, (∀ y ∈ a, validL y = true) → ∀ y ∈ a ++ [l], validL y = true := by
    intro a ha y hy
    rcases List.mem_append.1 hy with hy | hy
    · exact ha y hy
    · rw [List.mem_singleton.1 hy]; exact hl
  unfold ask
  split
  · exact ⟨snoc v.1, v.2⟩
  · split
    · exact v
    · exact ⟨v.1, snoc v.2⟩
theorem request_valids {s : St} (v : Valids s) (l : Lock) : Valids (request s l).1 := by
  unfold request
  split
  · exact v
  · rename_i hl
    have hl' : validL l = true := by simpa using hl
    split
    · exact v
    · split
      · split
        · exact v
        · exact ask_valids (cancel_valids v _) hl'
      · exact ask_valids v hl'
theorem act_valids {s : St} (v : Valids s) (k : Int) (l : Lock) : Valids (act s k l).1 := by
  unfold act
  split
  · exact cancel_valids v _
  · split
    · exact release_valids v _
    · exact request_valids v l

/-- The units that hold or wait. -/
def Has (s : St) (u : Int) : Prop := (∃ l ∈ s.h, l.unit = u) ∨ ∃ l ∈ s.q, l.unit = u
theorem edge_has {s : St} {u v : Int} (e : Edge s u v) : Has s v := by
  obtain ⟨p, l, r, hq, _, hv⟩ := e
  rcases mem_blks.1 hv with ⟨y, hy, rfl, _⟩ | ⟨y, hy, rfl, _⟩
  · exact .inl ⟨y, hy, rfl⟩
  · exact .inr ⟨y, by rw [hq]; simp [hy], rfl⟩
theorem release_has {s : St} {u v : Int} (h : Has (release s u).1 v) : Has s v ∧ v ≠ u := by
  obtain ⟨g1, g2, _⟩ := grantGo_sub (drop s.q u) (drop s.h u) [] []
  rcases h with ⟨l, hl, rfl⟩ | ⟨l, hl, rfl⟩
  · rcases g2 l hl with h1 | h1
    · exact ⟨.inl ⟨l, (List.mem_filter.1 h1).1, rfl⟩, by simpa using (List.mem_filter.1 h1).2⟩
    · exact ⟨.inr ⟨l, (List.mem_filter.1 h1).1, rfl⟩, by simpa using (List.mem_filter.1 h1).2⟩
  · have h1 : l ∈ drop s.q u := by simpa using g1 l hl
    exact ⟨.inr ⟨l, (List.mem_filter.1 h1).1, rfl⟩, by simpa using (List.mem_filter.1 h1).2⟩
theorem release_q {s : St} {u : Int} : ∀ l ∈ (release s u).1.q, l ∈ s.q := by
  intro l hl
  obtain ⟨g1, _, _⟩ := grantGo_sub (drop s.q u) (drop s.h u) [] []
  have h1 : l ∈ drop s.q u := by simpa using g1 l hl
  exact (List.mem_filter.1 h1).1
/-- The least of the units by rank waits for nobody. -/
theorem exists_least (rank : Int → Nat) : ∀ (us : List Int) (P : Int → Prop), (∃ u ∈ us, P u) → ∃ u ∈ us, P u ∧ ∀ v ∈ us, P v → rank u ≤ rank v := by
  intro us P h
  classical
  have key : ∀ (n : Nat), ∀ u ∈ us, P u → rank u ≤ n → ∃ u ∈ us, P u ∧ ∀ v ∈ us, P v → rank u ≤ rank v := by
    intro n
    induction n with
    | zero => intro u hu hp hr; exact ⟨u, hu, hp, fun v _ _ => by omega⟩
    | succ n ih =>
      intro u hu hp hr
      by_cases hv : ∃ v ∈ us, P v ∧ rank v < rank u
      · obtain ⟨v, h1, h2, h3⟩ := hv
        exact ih v h1 h2 (by omega)
      · exact ⟨u, hu, hp, fun v h1 h2 => by
          rcases Nat.lt_or_ge (rank v) (rank u) with h3 | h3
          · exact absurd ⟨v, h1, h2, h3⟩ hv
          · exact h3⟩
  obtain ⟨u, hu, hp⟩ := h
  exact key (rank u) u hu hp (Nat.le_refl _)
def endStep (s : St) (u : Int) : St := if idx s.q u = none then (release s u).1 else s
def endPass (us : List Int) (s : St) : St := us.foldl endStep s
def ends (us : List Int) : Nat → St → St
  | 0, s => s
  | n + 1, s => ends us n (endPass us s)
theorem endStep_good {s : St} (g : Good s) (u : Int) : Good (endStep s u) := by
  unfold endStep
  split
  · exact release_good g u
  · exact g
theorem endStep_has {s : St} {u v : Int} (h : Has (endStep s u) v) : Has s v := by
  unfold endStep at h
  split at h
  · exact (release_has h).1
  · exact h
theorem endStep_q {s : St} {u : Int} : ∀ l ∈ (endStep s u).q, l ∈ s.q := by
  intro l hl
  unfold endStep at hl
  split at hl
  · exact release_q l hl
  · exact hl
theorem endFold : ∀ (us : List Int) (s : St), Good s → Good (us.foldl endStep s) ∧ (∀ v, Has (us.foldl endStep s) v → Has s v) ∧ ∀ u ∈ us, (∀ l ∈ s.q, l.unit ≠ u) → ¬ Has (us.foldl endStep s) u := by
  intro us
  induction us with
  | nil => intro s g; exact ⟨g, fun _ h => h, fun u hu => by cases hu⟩
  | cons w us ih =>
    intro s g
    obtain ⟨h1, h2, h3⟩ := ih (endStep s w) (endStep_good g w)
    refine ⟨h1, fun v hv => endStep_has (h2 v hv), fun u hu hq => ?_⟩
    rcases List.mem_cons.1 hu with rfl | hu
    · intro hh
      have := h2 u hh
      unfold endStep at this
      rw [if_pos (idx_none.2 hq)] at this
      exact (release_has this).2 rfl
    · exact h3 u hu (fun l hl => hq l (endStep_q l hl))
theorem ends_nil (us : List Int) : ∀ (n : Nat) (s : St), Good s → (∀ v, Has s v → v ∈ us) → (∀ vs : List Int, vs.Nodup → (∀ v ∈ vs, Has s v) → vs.length ≤ n) → (ends us n s).h = [] ∧ (ends us n s).q = [] := by
  intro n
  induction n with
  | zero =>
    intro s _ _ hn
    have hno : ∀ v, ¬ Has s v := fun v hv => by
      have := hn [v] (by simp) (by simpa using hv)
      simp at this
    exact ⟨List.eq_nil_iff_forall_not_mem.2 fun l hl => hno l.unit (.inl ⟨l, hl, rfl⟩), List.eq_nil_iff_forall_not_mem.2 fun l hl => hno l.unit (.inr ⟨l, hl, rfl⟩)⟩
  | succ n ih =>
    intro s g hs hn
    rw [ends]
    obtain ⟨f1, f2, f3⟩ := endFold us s g
    refine ih _ f1 (fun v hv => hs v (f2 v hv)) ?_
    intro vs hnd hv
    by_cases hex : ∃ u ∈ us, Has s u
    · obtain ⟨rank, hr⟩ := g.acyc
      obtain ⟨u, hu, hp, hmin⟩ := exists_least rank us (Has s) hex
      have hnw : ∀ l ∈ s.q, l.unit ≠ u := by
        rintro l hl rfl
        obtain ⟨p, r, hq⟩ := List.append_of_mem hl
        have hb := g.busy p l r hq
        obtain ⟨v, hv'⟩ := List.exists_mem_of_ne_nil _ hb
        have e : Edge s l.unit v := ⟨p, l, r, hq, rfl, hv'⟩
        have h1 := hr _ _ e
        have h2 := hmin v (hs v (edge_has e)) (edge_has e)
        omega
      have hgone := f3 u hu hnw
      have := hn (u :: vs) (List.nodup_cons.2 ⟨fun hmem => hgone (hv u hmem), hnd⟩) (by
        intro v hv2
        rcases List.mem_cons.1 hv2 with rfl | hv2
        · exact hp
        · exact f2 v (hv v hv2))
      simp at this
      omega
    · have : vs = [] := by
        cases vs with
        | nil => rfl
        | cons v vs => exact absurd ⟨v, hs v (f2 v (hv v (by simp))), f2 v (hv v (by simp))⟩ hex
      rw [this]
      simp
theorem nodup_len : ∀ (vs us : List Int), vs.Nodup → (∀ v ∈ vs, v ∈ us) → vs.length ≤ us.length := by
  intro vs
  induction vs with
  | nil => intro us _ _; exact Nat.zero_le _
  | cons v vs ih =>
    intro us hnd h
    have hv := h v (by simp)
    have h1 := List.nodup_cons.1 hnd
    have := ih (us.erase v) h1.2 (fun w hw => (List.mem_erase_of_ne (a := w) (b := v) (fun e => by subst e; exact h1.1 hw)).2 (h w (by simp [hw])))
    rw [List.length_erase_of_mem hv] at this
    have hpos := List.length_pos_of_mem hv
    simp
    omega
/-- Everybody gets what it waits for, and nothing is held at last. -/
theorem ends_all {us : List Int} {s : St} (g : Good s) (h : ∀ v, Has s v → v ∈ us) : (ends us us.length s).h = [] ∧ (ends us us.length s).q = [] := by
  refine ends_nil us us.length s g h (fun vs hnd hv => ?_)
  have hsub : ∀ v ∈ vs, v ∈ us := fun v hvv => h v (hv v hvv)
  exact nodup_len vs us hnd hsub

/-- Units without blockers leave again and again. -/
def freeStep (e : Int → List Int) (ks : List Int) (u : Int) : List Int := if u ∈ ks ∧ ∃ b ∈ e u, b ∈ ks then ks else ks.filter (fun k => decide (k ≠ u))
theorem freeStep_sub {e : Int → List Int} {ks : List Int} {u : Int} : ∀ k ∈ freeStep e ks u, k ∈ ks := by
  intro k hk
  unfold freeStep at hk
  split at hk
  · exact hk
  · exact (List.mem_filter.1 hk).1
def frees (e : Int → List Int) (us : List Int) : Nat → List Int → List Int
  | 0, ks => ks
  | n + 1, ks => frees e us n (us.foldl (freeStep e) ks)
theorem freeFold (e : Int → List Int) : ∀ (us ks : List Int), (∀ k ∈ us.foldl (freeStep e) ks, k ∈ ks) ∧ ∀ u ∈ us, (∀ b ∈ e u, b ∉ ks) → u ∉ us.foldl (freeStep e) ks := by
  intro us
  induction us with
  | nil => intro ks; exact ⟨fun _ h => h, fun u hu => by cases hu⟩
  | cons w us ih =>
    intro ks
    obtain ⟨h1, h2⟩ := ih (freeStep e ks w)
    refine ⟨fun k hk => freeStep_sub k (h1 k hk), fun u hu hb => ?_⟩
    rcases List.mem_cons.1 hu with rfl | hu
    · intro hm
      have := h1 u hm
      unfold freeStep at this
      rw [if_neg (by rintro ⟨_, b, hb1, hb2⟩; exact hb b hb1 hb2)] at this
      simpa using (List.mem_filter.1 this).2
    · exact h2 u hu (fun b hb1 hb2 => hb b hb1 (freeStep_sub b hb2))
theorem frees_nil {e : Int → List Int} {rank : Int → Nat} (hr : ∀ u v, v ∈ e u → rank v < rank u) (us : List Int) : ∀ (n : Nat) (ks : List Int), (∀ k ∈ ks, k ∈ us) → (∀ vs : List Int, vs.Nodup → (∀ v ∈ vs, v ∈ ks) → vs.length ≤ n) → frees e us n ks = [] := by
  intro n
  induction n with
  | zero =>
    intro ks _ hn
    rw [frees]
    refine List.eq_nil_iff_forall_not_mem.2 fun v hv => ?_
    have := hn [v] (by simp) (by simpa using hv)
    simp at this
  | succ n ih =>
    intro ks hs hn
    rw [frees]
    obtain ⟨f1, f2⟩ := freeFold e us ks
    refine ih _ (fun k hk => hs k (f1 k hk)) (fun vs hnd hv => ?_)
    by_cases hex : ∃ u ∈ us, u ∈ ks
    · obtain ⟨u, hu, hp, hmin⟩ := exists_least rank us (· ∈ ks) hex
      have hgone := f2 u hu (fun b hb hbk => by
        have h1 := hr u b hb
        have h2 := hmin b (hs b hbk) hbk
        omega)
      have := hn (u :: vs) (List.nodup_cons.2 ⟨fun hmem => hgone (hv u hmem), hnd⟩) (by
        intro v hv2
        rcases List.mem_cons.1 hv2 with rfl | hv2
        · exact hp
        · exact f1 v (hv v hv2))
      simp at this
      omega
    · have : vs = [] := by
        cases vs with
        | nil => rfl
        | cons v vs => exact absurd ⟨v, hs v (f1 v (hv v (by simp))), f1 v (hv v (by simp))⟩ hex
      rw [this]
      simp
theorem frees_all {e : Int → List Int} {rank : Int → Nat} (hr : ∀ u v, v ∈ e u → rank v < rank u) {us ks : List Int} (h : ∀ k ∈ ks, k ∈ us) : frees e us us.length ks = [] :=
  frees_nil hr us us.length ks h (fun vs hnd hv => nodup_len vs us hnd (fun v hvv => h v (hv v hvv)))

/-- A manager made from locks. -/
def newL (ls : List Lock) : List Lock := ls.foldl (fun h l => if validL l && !(h.any fun y => conflict y l) then h ++ [l] else h) []
theorem newL_id {h : List Lock} (hv : ∀ l ∈ h, validL l = true) (hc : Compat h) : newL h = h := by
  have key : ∀ (q p : List Lock), (∀ l ∈ q, validL l = true) → Compat (p ++ q) → q.foldl (fun h l => if validL l && !(h.any fun y => conflict y l) then h ++ [l] else h) p = p ++ q := by
    intro q
    induction q with
    | nil => intro p _ _; simp
    | cons l q ih =>
      intro p hv hc
      have hno : (p.any fun y => conflict y l) = false := by
        rw [List.any_eq_false]
        intro y hy
        rw [hc y (by simp [hy]) l (by simp)]
        decide
      rw [List.foldl_cons, hv l (by simp), hno]
      simp only [Bool.not_false, Bool.and_self, if_true]
      rw [ih (p ++ [l]) (fun y hy => hv y (by simp [hy])) (by simpa using hc)]
      simp
  have := key h [] hv (by simpa using hc)
  simpa [newL] using this
theorem covers_self (r : Rng) : covers r r = true := by
  unfold covers
  rw [le_refl, le_refl]
  cases emp r <;> cases r.e <;> rfl
theorem covered_self {h : List Lock} {l : Lock} (hl : l ∈ h) : covered h l = true := by
  unfold covered
  rw [List.any_eq_true]
  refine ⟨l, hl, ?_⟩
  rw [covers_self]
  cases l.x <;> simp
theorem emp_valid {l : Lock} (h : validL l = true) : emp l.r = false := by
  unfold validL at h
  simp at h
  exact h.2
/-- A part of a lock: its first key, shared. -/
def partL (l : Lock) : Lock := ⟨l.unit, l.id, ⟨l.r.low, l.r.low, false⟩, false⟩
theorem covered_part {h : List Lock} {l : Lock} (hl : l ∈ h) (hv : validL l = true) : covered h (partL l) = true ∧ validL (partL l) = true := by
  have hin : inR l.r l.r.low = true := by rw [inR_low, emp_valid hv]; rfl
  constructor
  · unfold covered
    rw [List.any_eq_true]
    refine ⟨l, hl, ?_⟩
    have hc : covers l.r ⟨l.r.low, l.r.low, false⟩ = true := by
      unfold inR at hin
      unfold covers emp
      simp only [Bool.and_eq_true, Bool.or_eq_true] at hin
      rcases hin.2 with h2 | h2 <;> simp [hin.1, h2]
    unfold partL
    rw [hc]
    simp
  · unfold validL partL emp at *
    simp only [Bool.and_eq_true, decide_eq_true_eq] at hv
    simp [hv, lt_irrefl]
theorem request_covered {s : St} {l : Lock} (hv : validL l = true) (hc : covered s.h l = true) : request s l = (s, 0) := by
  unfold request
  rw [if_neg (by rw [hv]; decide), if_pos hc]
end P46
namespace P46
open P16
theorem reach_has {s : St} {u v : Int} (h : Reach s u v) : u = v ∨ Has s v := by
  induction h with
  | refl u => exact .inl rfl
  | step e _ ih =>
    rcases ih with rfl | ih
    · exact .inr (edge_has e)
    · exact .inr ih
/-- A new unit that neither holds nor waits: it gets its lock exactly where that conflicts with none. -/
theorem order_free {s : St} {x : Lock} (hv : validL x = true) (hn : ¬ Has s x.unit) : covered s.h x = false ∧ idx s.q x.unit = none ∧ request s x = ask s x ∧ (blks s.h s.q x = [] ↔ ∀ y ∈ s.h ++ s.q, conflict x y = false) := by
  have h1 : ∀ y ∈ s.h, y.unit ≠ x.unit := fun y hy e => hn (.inl ⟨y, hy, e⟩)
  have h2 : ∀ y ∈ s.q, y.unit ≠ x.unit := fun y hy e => hn (.inr ⟨y, hy, e⟩)
  have hc : covered s.h x = false := by
    unfold covered
    rw [List.any_eq_false]
    intro y hy
    simp [h1 y hy]
  have hi := idx_none.2 h2
  refine ⟨hc, hi, ?_, ?_⟩
  · unfold request
    rw [if_neg (by rw [hv]; decide), if_neg (by rw [hc]; decide), hi]
  · constructor
    · intro e y hy
      cases hcf : conflict x y
      · rfl
      · exfalso
        have : y.unit ∈ blks s.h s.q x := by
          rcases List.mem_append.1 hy with hy | hy
          · exact mem_blks.2 (.inl ⟨y, hy, rfl, by rw [conflict_comm]; exact hcf⟩)
          · exact mem_blks.2 (.inr ⟨y, hy, rfl, by rw [conflict_comm]; exact hcf, fun z hz hu => absurd hu (h1 z hz)⟩)
        rw [e] at this
        cases this
    · intro h
      refine List.eq_nil_iff_forall_not_mem.2 fun v hv => ?_
      rcases mem_blks.1 hv with ⟨y, hy, _, hcf⟩ | ⟨y, hy, _, hcf, _⟩
      · rw [conflict_comm, h y (by simp [hy])] at hcf; cases hcf
      · rw [conflict_comm, h y (by simp [hy])] at hcf; cases hcf
theorem order_busy {s : St} {x : Lock} (hv : validL x = true) (hn : ¬ Has s x.unit) (hb : blks s.h s.q x ≠ []) : request s x = (⟨s.h, s.q ++ [x]⟩, 15) ∧ request ⟨s.h, s.q ++ [x]⟩ x = (⟨s.h, s.q ++ [x]⟩, 15) := by
  obtain ⟨hc, hi, hr, _⟩ := order_free hv hn
  constructor
  · rw [hr]
    unfold ask
    rw [if_neg hb, if_neg]
    intro h
    obtain ⟨b, hb1, hb2⟩ := reaches_iff.1 h
    rcases reach_has hb2 with rfl | h'
    · exact blks_ne hb1 rfl
    · exact hn h'
  · have hi2 : idx (s.q ++ [x]) x.unit = some s.q.length := by
      unfold idx at hi ⊢
      rw [List.findIdx?_append, hi]
      simp [List.findIdx?_cons]
    unfold request
    rw [if_neg (by rw [hv]; decide), if_neg (by rw [hc]; decide)]
    dsimp only
    rw [hi2]
    simp
/-- The formula of LockCompatible. -/
theorem overlap_formula {a b : Rng} (ha : emp a = false) (hb : emp b = false) : ((a.e || le b.low a.high) && (b.e || le a.low b.high)) = overlap a b := by
  have h := inR_low (meet a b)
  have l1 : le a.low (mx a.low b.low) = true := by
    unfold mx
    split
    · rename_i h; unfold le; rw [lt_asymm h]; rfl
    · exact le_refl _
  have l2 : le b.low (mx a.low b.low) = true := by
    unfold mx
    split
    · exact le_refl _
    · rename_i h; simp only [Bool.not_eq_true] at h; unfold le; rw [h]; rfl
  unfold overlap
  rw [← h, inR_meet]
  unfold inR
  rw [show (meet a b).low = mx a.low b.low from rfl, mx_le, mx_le, l1, l2]
  unfold emp at ha hb
  have ha' : a.e = true ∨ le a.low a.high = true := by
    unfold le
    cases h1 : a.e <;> simp [h1] at ha ⊢
    exact ha
  have hb' : b.e = true ∨ le b.low b.high = true := by
    unfold le
    cases h1 : b.e <;> simp [h1] at hb ⊢
    exact hb
  rcases ha' with h1 | h1 <;> rcases hb' with h2 | h2 <;> simp [h1, h2]
/-- A deep search: what it has seen, and whether it met the unit. 'succ' tells for whom a unit waits. -/
structure Found (succ : Int → List Int) (unit : Int) (seen : List Int) (n : Int) (yes : Bool) (seen' : List Int) : Prop where
  sub : ∀ x ∈ seen, x ∈ seen'
  no : yes = false → n ∈ seen' ∧ ∀ x ∈ seen', x ∈ seen ∨ (x ≠ unit ∧ ∀ y ∈ succ x, y ∈ seen')
inductive Path (succ : Int → List Int) : Int → Int → Prop
  | refl (u : Int) : Path succ u u
  | step {u v w : Int} : v ∈ succ u → Path succ v w → Path succ u w
theorem closed_no {succ : Int → List Int} {unit : Int} {seen : List Int} (h : ∀ x ∈ seen, x ≠ unit ∧ ∀ y ∈ succ x, y ∈ seen) : ∀ {u v : Int}, Path succ u v → u ∈ seen → v ≠ unit := by
  intro u v p
  induction p with
  | refl u => intro hu; exact (h u hu).1
  | step e _ ih => intro hu; exact ih ((h _ hu).2 _ e)
theorem path_reach {s : St} (ho : Ones s.q) {u v : Int} : Path (blockers s) u v ↔ Reach s u v := by
  constructor
  · intro p
    induction p with
    | refl u => exact .refl u
    | step e _ ih => exact .step ((edge_blockers ho).2 e) ih
  · intro p
    induction p with
    | refl u => exact .refl u
    | step e _ ih => exact .step ((edge_blockers ho).1 e) ih
end P46
namespace P46
/-- A number put into a list in increasing order, once. -/
def ins (l : List Int) (n : Int) : List Int := l.takeWhile (fun x => decide (x < n)) ++ (if (l.dropWhile (fun x => decide (x < n))).head? = some n then l.dropWhile (fun x => decide (x < n)) else n :: l.dropWhile (fun x => decide (x < n)))
def setL (l : List Int) : List Int := l.foldl ins []
abbrev Up (l : List Int) : Prop := l.Pairwise (· < ·)
theorem dropWhile_ge {n : Int} : ∀ {l : List Int}, Up l → ∀ x ∈ l.dropWhile (fun x => decide (x < n)), n ≤ x
  | [], _, x, hx => by simp at hx
  | y :: l, h, x, hx => by
    by_cases hy : y < n
    · rw [List.dropWhile_cons_of_pos (by simpa using hy)] at hx
      exact dropWhile_ge (List.pairwise_cons.1 h).2 x hx
    · rw [List.dropWhile_cons_of_neg (by simpa using hy)] at hx
      rcases List.mem_cons.1 hx with rfl | hx
      · omega
      · have := (List.pairwise_cons.1 h).1 x hx
        omega
theorem takeWhile_lt {n : Int} : ∀ {l : List Int}, ∀ x ∈ l.takeWhile (fun x => decide (x < n)), x < n
  | [], x, hx => by simp at hx
  | y :: l, x, hx => by
    by_cases hy : y < n
    · rw [List.takeWhile_cons_of_pos (by simpa using hy)] at hx
      rcases List.mem_cons.1 hx with rfl | hx
      · exact hy
      · exact takeWhile_lt x hx
    · rw [List.takeWhile_cons_of_neg (by simpa using hy)] at hx
      cases hx
theorem ins_spec {l : List Int} (h : Up l) (n : Int) : Up (ins l n) ∧ ∀ x, x ∈ ins l n ↔ x ∈ l ∨ x = n := by
  have hd : l.takeWhile (fun x => decide (x < n)) ++ l.dropWhile (fun x => decide (x < n)) = l := List.takeWhile_append_dropWhile
  have hge := dropWhile_ge (n := n) h
  have hlt := takeWhile_lt (n := n) (l := l)
  have hp := h
  rw [Up, ← hd, List.pairwise_append] at hp
  unfold ins
  generalize l.takeWhile (fun x => decide (x < n)) = a at *
  generalize l.dropWhile (fun x => decide (x < n)) = b at *
  subst hd
  split
  · rename_i hh
    refine ⟨h, fun x => ⟨.inl, fun hx => hx.elim id ?_⟩⟩
    rintro rfl
    exact List.mem_append_right _ (List.mem_of_mem_head? (by rw [hh]; simp))
  · rename_i hh
    have hgt : ∀ x ∈ b, n < x := by
      intro x hx
      cases b with
      | nil => cases hx
      | cons y b =>
        have hy : y ≠ n := fun e => hh (by rw [e]; rfl)
        have hy' := hge y (by simp)
        rcases List.mem_cons.1 hx with rfl | hx
        · omega
        · have := (List.pairwise_cons.1 hp.2.1).1 x hx
          omega
    refine ⟨?_, fun x => ?_⟩
    · rw [Up, List.pairwise_append]
      refine ⟨hp.1, List.pairwise_cons.2 ⟨hgt, hp.2.1⟩, fun x hx y hy => ?_⟩
      have := hlt x hx
      rcases List.mem_cons.1 hy with rfl | hy
      · exact this
      · have := hgt y hy
        omega
    · simp only [List.mem_append, List.mem_cons]
      constructor
      · rintro (h | h | h)
        · exact .inl (.inl h)
        · exact .inr h
        · exact .inl (.inr h)
      · rintro ((h | h) | h)
        · exact .inl h
        · exact .inr (.inr h)
        · exact .inr (.inl h)
theorem setL_spec (l : List Int) : Up (setL l) ∧ ∀ x, x ∈ setL l ↔ x ∈ l := by
  have key : ∀ (l a : List Int), Up a → Up (l.foldl ins a) ∧ ∀ x, x ∈ l.foldl ins a ↔ x ∈ a ∨ x ∈ l := by
    intro l
    induction l with
    | nil => intro a h; exact ⟨h, fun x => by simp⟩
    | cons n l ih =>
      intro a h
      obtain ⟨h1, h2⟩ := ins_spec h n
      obtain ⟨h3, h4⟩ := ih (ins a n) h1
      refine ⟨h3, fun x => ?_⟩
      rw [List.foldl_cons, h4, h2, List.mem_cons, or_assoc]
  obtain ⟨h1, h2⟩ := key l [] List.Pairwise.nil
  exact ⟨h1, fun x => by unfold setL; rw [h2]; simp⟩
theorem up_ext : ∀ {a b : List Int}, Up a → Up b → (∀ x, x ∈ a ↔ x ∈ b) → a = b
  | [], [], _, _, _ => rfl
  | [], y :: b, _, _, h => by have := (h y).2 (by simp); cases this
  | x :: a, [], _, _, h => by have := (h x).1 (by simp); cases this
  | x :: a, y :: b, ha, hb, h => by
    have ha' := List.pairwise_cons.1 ha
    have hb' := List.pairwise_cons.1 hb
    have hxy : x = y := by
      have h1 := (h x).1 (by simp)
      have h2 := (h y).2 (by simp)
      rcases List.mem_cons.1 h1 with h1 | h1
      · exact h1
      · rcases List.mem_cons.1 h2 with h2 | h2
        · exact h2.symm
        · have := hb'.1 x h1
          have := ha'.1 y h2
          omega
    subst hxy
    rw [up_ext ha'.2 hb'.2 (fun z => ?_)]
    constructor
    · intro hz
      have h1 := ha'.1 z hz
      rcases List.mem_cons.1 ((h z).1 (by simp [hz])) with rfl | h2
      · omega
      · exact h2
    · intro hz
      have h1 := hb'.1 z hz
      rcases List.mem_cons.1 ((h z).2 (by simp [hz])) with rfl | h2
      · omega
      · exact h2
theorem setL_eq {l m : List Int} (h : ∀ x, x ∈ l ↔ x ∈ m) : setL l = setL m :=
  up_ext (setL_spec l).1 (setL_spec m).1 (fun x => by rw [(setL_spec l).2, (setL_spec m).2, h])
end P46
