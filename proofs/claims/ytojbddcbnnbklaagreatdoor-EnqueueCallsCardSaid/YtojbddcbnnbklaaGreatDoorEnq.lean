/- Names that are held and waited for, in plain Lean: who conflicts with whom, looking at the waiting ones, and what stays true; no program in sight. -/
import Derived.Test.YtojbddcbnnbklaaGreatDoorKit
namespace P43
abbrev Nm := List UInt8
/-- An owner with its wish: whether it wants each name exclusively. -/
structure Cl where
  (id : Int) (ns : List (Nm × Bool))
  deriving DecidableEq
def conf (a b : Cl) : Bool := a.ns.any fun p => b.ns.any fun q => decide (p.1 = q.1) && (p.2 || q.2)
theorem conf_iff {a b : Cl} : conf a b = true ↔ ∃ p ∈ a.ns, ∃ q ∈ b.ns, p.1 = q.1 ∧ (p.2 || q.2) = true := by
  unfold conf
  simp [List.any_eq_true]
theorem conf_comm (a b : Cl) : conf a b = conf b a := by
  rw [Bool.eq_iff_iff, conf_iff, conf_iff]
  constructor <;> (rintro ⟨p, hp, q, hq, h1, h2⟩; exact ⟨q, hq, p, hp, h1.symm, by rw [Bool.or_comm]; exact h2⟩)
structure T where
  (hs ws : List Cl)
/-- The claims of a list that conflict with one. -/
def blk (l : List Cl) (c : Cl) : List Cl := l.filter fun x => conf x c
theorem mem_blk {l : List Cl} {c x : Cl} : x ∈ blk l c ↔ x ∈ l ∧ conf x c = true := by
  unfold blk
  rw [List.mem_filter]
theorem blk_nil {l : List Cl} {c : Cl} : blk l c = [] ↔ ∀ x ∈ l, conf x c = false := by
  unfold blk
  rw [List.filter_eq_nil_iff]
  simp
/-- The waiting claims that may go on become holders, from the first to the last. -/
def lookGo : List Cl → List Cl → List Cl → List Int → T × List Int
  | h, st, [], out => (⟨h, st⟩, out)
  | h, st, c :: rest, out => if blk (h ++ st) c = [] then lookGo (h ++ [c]) st rest (out ++ [c.id]) else lookGo h (st ++ [c]) rest out
def look (t : T) : T × List Int := lookGo t.hs [] t.ws []
def drop (l : List Cl) (o : Int) : List Cl := l.filter fun c => decide (c.id ≠ o)
/-- A lock made one that is not exclusive. -/
def setF (c : Cl) (s : Nm) : Cl := ⟨c.id, c.ns.map fun p => if p.1 = s then (p.1, false) else p⟩
def shareL (l : List Cl) (o : Int) (s : Nm) : List Cl := l.map fun c => if c.id = o then setF c s else c
def release (t : T) (o : Int) : T × List Int := look ⟨drop t.hs o, drop t.ws o⟩
def share (t : T) (o : Int) (s : Nm) : T × List Int := look ⟨shareL t.hs o s, t.ws⟩
def enter (t : T) (c : Cl) : T × Bool := if blk (t.hs ++ t.ws) c = [] then (⟨t.hs ++ [c], t.ws⟩, true) else (⟨t.hs, t.ws ++ [c]⟩, false)
def ids (l : List Cl) : List Int := l.map (·.id)
theorem ids_append (a b : List Cl) : ids (a ++ b) = ids a ++ ids b := List.map_append
/-- What holds of a table at any time. -/
structure Inv (t : T) : Prop where
  once : (ids (t.hs ++ t.ws)).Nodup
  compat : ∀ a ∈ t.hs, ∀ b ∈ t.hs, a.id ≠ b.id → conf a b = false
  busy : ∀ pre c post, t.ws = pre ++ c :: post → blk (t.hs ++ pre) c ≠ []
theorem inv_nil : Inv ⟨[], []⟩ := ⟨by simp [ids], by simp, by intro p c q h; simp at h⟩
/-- What holds while the waiting ones are looked at. -/
structure Mid (h st rest : List Cl) : Prop where
  once : (ids (h ++ (st ++ rest))).Nodup
  compat : ∀ a ∈ h, ∀ b ∈ h, a.id ≠ b.id → conf a b = false
  busy : ∀ pre c post, st = pre ++ c :: post → blk (h ++ pre) c ≠ []
theorem blk_mono {l m : List Cl} {c : Cl} (h : ∀ x ∈ l, x ∈ m) (hn : blk l c ≠ []) : blk m c ≠ [] := by
  intro e
  apply hn
  rw [blk_nil] at e ⊢
  exact fun x hx => e x (h x hx)
theorem cons_split {α : Type} {a b c d : List α} {y : α} (h : a ++ b = c ++ y :: d) : (∃ e, a = c ++ y :: e ∧ d = e ++ b) ∨ (∃ e, c = a ++ e ∧ b = e ++ y :: d) := by
  rw [List.append_eq_append_iff] at h
  rcases h with ⟨e, h1, h2⟩ | ⟨e, h1, h2⟩
  · exact .inr ⟨e, h1, h2⟩
  · cases e with
    | nil => exact .inr ⟨[], by simpa using h1.symm, by simpa using h2.symm⟩
    | cons z e =>
      rw [List.cons_append] at h2
      simp only [List.cons.injEq] at h2
      obtain ⟨rfl, rfl⟩ := h2
      exact .inl ⟨e, h1, rfl⟩
theorem Mid.take {h st rest : List Cl} {c : Cl} (m : Mid h st (c :: rest)) (e : blk (h ++ st) c = []) : Mid (h ++ [c]) st rest := by
  rw [blk_nil] at e
  refine ⟨?_, ?_, ?_⟩
  · have h1 := m.once
    have hp : (ids (h ++ [c] ++ (st ++ rest))).Perm (ids (h ++ (st ++ c :: rest))) := by
      unfold ids
      refine List.Perm.map _ ?_
      rw [List.append_assoc]
      refine List.Perm.append_left h ?_
      exact (List.perm_middle (l₁ := st) (l₂ := rest) (a := c)).symm
    exact (hp.nodup_iff).2 h1
  · intro a ha b hb hab
    rcases List.mem_append.1 ha with ha1 | ha1 <;> rcases List.mem_append.1 hb with hb1 | hb1
    · exact m.compat a ha1 b hb1 hab
    · rw [List.mem_singleton.1 hb1]
      exact e a (List.mem_append_left _ ha1)
    · rw [List.mem_singleton.1 ha1, conf_comm]
      exact e b (List.mem_append_left _ hb1)
    · rw [List.mem_singleton.1 ha1, List.mem_singleton.1 hb1] at hab
      exact absurd rfl hab
  · intro pre d post hp
    refine blk_mono (fun x hx => ?_) (m.busy pre d post hp)
    rcases List.mem_append.1 hx with hx | hx
    · simp [hx]
    · simp [hx]
theorem Mid.wait {h st rest : List Cl} {c : Cl} (m : Mid h st (c :: rest)) (e : blk (h ++ st) c ≠ []) : Mid h (st ++ [c]) rest := by
  refine ⟨by simpa using m.once, m.compat, ?_⟩
  intro pre d post hp
  rcases cons_split hp with ⟨x, h1, h2⟩ | ⟨x, h1, h2⟩
  · exact m.busy pre d x h1
  · cases x with
    | nil =>
      simp at h1 h2
      rw [h1, ← h2.1]
      exact e
    | cons z x =>
      have := congrArg List.length h2
      simp at this
theorem lookGo_inv : ∀ (rest h st : List Cl) (out : List Int), Mid h st rest → Inv (lookGo h st rest out).1
  | [], h, st, out, m => ⟨by have := m.once; rwa [List.append_nil] at this, m.compat, m.busy⟩
  | c :: rest, h, st, out, m => by
    rw [lookGo]
    split
    · rename_i e
      exact lookGo_inv rest _ _ _ (m.take e)
    · rename_i e
      exact lookGo_inv rest _ _ _ (m.wait e)
/-- Who goes on, and who still waits. -/
theorem lookGo_parts : ∀ (rest h st : List Cl) (out : List Int), ∃ g r : List Cl, lookGo h st rest out = (⟨h ++ g, st ++ r⟩, out ++ ids g) ∧ g.Sublist rest ∧ r.Sublist rest ∧ (g ++ r).Perm rest
  | [], h, st, out => ⟨[], [], by simp [lookGo, ids], .slnil, .slnil, .nil⟩
  | c :: rest, h, st, out => by
    rw [lookGo]
    split
    · obtain ⟨g, r, h1, h2, h3, h4⟩ := lookGo_parts rest (h ++ [c]) st (out ++ [c.id])
      refine ⟨c :: g, r, by rw [h1]; simp [ids], h2.cons_cons c, h3.cons c, by simpa using h4⟩
    · obtain ⟨g, r, h1, h2, h3, h4⟩ := lookGo_parts rest h (st ++ [c]) out
      refine ⟨g, c :: r, by rw [h1]; simp, h2.cons c, h3.cons_cons c, ?_⟩
      exact List.perm_middle.trans (by simpa using h4)
theorem drop_sub (l : List Cl) (o : Int) : (drop l o).Sublist l := List.filter_sublist
theorem mem_drop {l : List Cl} {o : Int} {c : Cl} : c ∈ drop l o ↔ c ∈ l ∧ c.id ≠ o := by
  unfold drop
  rw [List.mem_filter]
  simp
theorem release_inv {t : T} (i : Inv t) (o : Int) : Inv (release t o).1 := by
  refine lookGo_inv _ _ _ _ ⟨?_, fun a ha b hb => i.compat a (mem_drop.1 ha).1 b (mem_drop.1 hb).1, by intro p c q h; simp at h⟩
  rw [List.nil_append]
  refine i.once.sublist ?_
  unfold ids
  exact ((drop_sub _ _).append (drop_sub _ _)).map _
theorem setF_conf {a b : Cl} {s : Nm} (h : conf (setF a s) b = true) : conf a b = true := by
  rw [conf_iff] at h ⊢
  obtain ⟨p, hp, q, hq, h1, h2⟩ := h
  obtain ⟨p0, hp0, rfl⟩ := List.mem_map.1 hp
  by_cases he : p0.1 = s
  · rw [if_pos he] at h1 h2
    refine ⟨p0, hp0, q, hq, h1, ?_⟩
    simp only [Bool.false_or] at h2
    rw [h2, Bool.or_true]
  · rw [if_neg he] at h1 h2
    exact ⟨p0, hp0, q, hq, h1, h2⟩
theorem setF_id (c : Cl) (s : Nm) : (setF c s).id = c.id := rfl
theorem shareL_ids (l : List Cl) (o : Int) (s : Nm) : ids (shareL l o s) = ids l := by
  unfold ids shareL
  rw [List.map_map]
  refine List.map_congr_left fun c _ => ?_
  simp only [Function.comp]
  split <;> rfl
/-- Sharing leaves fewer conflicts. -/
theorem shareL_conf {l : List Cl} {o : Int} {s : Nm} {x : Cl} (hx : x ∈ shareL l o s) : ∃ y ∈ l, y.id = x.id ∧ ∀ b, conf x b = true → conf y b = true := by
  obtain ⟨y, hy, rfl⟩ := List.mem_map.1 hx
  refine ⟨y, hy, ?_, fun b hb => ?_⟩
  · split <;> rfl
  · split at hb
    · exact setF_conf hb
    · exact hb
theorem share_inv {t : T} (i : Inv t) (o : Int) (s : Nm) : Inv (share t o s).1 := by
  refine lookGo_inv _ _ _ _ ⟨?_, ?_, by intro p c q h; simp at h⟩
  · have := i.once
    rw [ids_append] at this
    rw [List.nil_append, ids_append]
    show (ids (shareL t.hs o s) ++ ids t.ws).Nodup
    rw [shareL_ids]
    exact this
  · intro a ha b hb hab
    obtain ⟨a', ha', hia, hca⟩ := shareL_conf ha
    obtain ⟨b', hb', hib, hcb⟩ := shareL_conf hb
    cases hc : conf a b with
    | false => rfl
    | true =>
      exfalso
      have h1 := hca b hc
      rw [conf_comm] at h1
      have h2 := hcb a' h1
      rw [conf_comm] at h2
      rw [i.compat a' ha' b' hb' (by rw [hia, hib]; exact hab)] at h2
      cases h2
theorem enter_inv {t : T} (i : Inv t) {c : Cl} (hn : c.id ∉ ids (t.hs ++ t.ws)) : Inv (enter t c).1 := by
  have hone : (ids (t.hs ++ t.ws) ++ [c.id]).Nodup := by
    rw [List.nodup_append]
    exact ⟨i.once, by simp, fun a ha b hb e => by rw [List.mem_singleton.1 hb] at e; exact hn (e ▸ ha)⟩
  unfold enter
  split
  · rename_i e
    rw [blk_nil] at e
    refine ⟨?_, ?_, ?_⟩
    · have hp : (ids (t.hs ++ [c] ++ t.ws)).Perm (ids (t.hs ++ t.ws) ++ [c.id]) := by
        rw [show ids (t.hs ++ t.ws) ++ [c.id] = ids (t.hs ++ t.ws ++ [c]) from by rw [ids_append (t.hs ++ t.ws)]; rfl]
        unfold ids
        refine List.Perm.map _ ?_
        rw [List.append_assoc, List.append_assoc]
        exact List.Perm.append_left _ List.perm_append_comm
      exact hp.nodup_iff.2 hone
    · intro a ha b hb hab
      rcases List.mem_append.1 ha with ha1 | ha1 <;> rcases List.mem_append.1 hb with hb1 | hb1
      · exact i.compat a ha1 b hb1 hab
      · rw [List.mem_singleton.1 hb1]
        exact e a (List.mem_append_left _ ha1)
      · rw [List.mem_singleton.1 ha1, conf_comm]
        exact e b (List.mem_append_left _ hb1)
      · rw [List.mem_singleton.1 ha1, List.mem_singleton.1 hb1] at hab
        exact absurd rfl hab
    · intro pre d post hp
      exact blk_mono (fun x hx => by rcases List.mem_append.1 hx with hx | hx <;> simp [hx]) (i.busy pre d post hp)
  · rename_i e
    refine ⟨?_, i.compat, ?_⟩
    · show (ids (t.hs ++ (t.ws ++ [c]))).Nodup
      rw [← List.append_assoc, ids_append]
      exact hone
    · intro pre d post hp
      rcases cons_split hp with ⟨x, h1, h2⟩ | ⟨x, h1, h2⟩
      · exact i.busy pre d x h1
      · cases x with
        | nil =>
          simp at h1 h2
          rw [h1, ← h2.1]
          exact e
        | cons z x =>
          have := congrArg List.length h2
          simp at this
end P43
