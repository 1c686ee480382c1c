/- What the laws say, in plain Lean: who holds a name, who blocks whom, what becomes of all when holders go away or share. -/
import Derived.Test.YtojbddcbnnbklaaGreatDoorEnqL
namespace P43
def sortZ (l : List Int) : List Int := l.mergeSort fun x y => decide (x ≤ y)
theorem mem_sortZ {l : List Int} {n : Int} : n ∈ sortZ l ↔ n ∈ l := (List.mergeSort_perm l _).mem_iff
theorem len_sortZ (l : List Int) : (sortZ l).length = l.length := (List.mergeSort_perm l _).length_eq
theorem sortZ_nil {l : List Int} (h : l ≠ []) : sortZ l ≠ [] := fun e => h (List.eq_nil_of_length_eq_zero (by rw [← len_sortZ, e]; rfl))
/-- What a claim says of a name. -/
def val (ns : List (Nm × Bool)) (s : Nm) : Option Bool := (ns.find? fun p => decide (p.1 = s)).map (·.2)
theorem val_mem {ns : List (Nm × Bool)} {s : Nm} {x : Bool} (h : val ns s = some x) : (s, x) ∈ ns := by
  unfold val at h
  rw [Option.map_eq_some_iff] at h
  obtain ⟨⟨a, b⟩, h1, h2⟩ := h
  have h3 := List.mem_of_find?_eq_some h1
  have h4 := List.find?_some h1
  simp only [decide_eq_true_eq] at h4
  simp only at h2
  rw [← h4, ← h2]
  exact h3
theorem val_of {ns : List (Nm × Bool)} (hk : (names ns).Nodup) {s : Nm} {x : Bool} (h : (s, x) ∈ ns) : val ns s = some x := by
  induction ns with
  | nil => cases h
  | cons p ns ih =>
    have hk2 := List.nodup_cons.1 (show (p.1 :: names ns).Nodup from hk)
    unfold val
    rcases List.mem_cons.1 h with rfl | h
    · simp
    · have hne : p.1 ≠ s := fun e => hk2.1 (List.mem_map.2 ⟨(s, x), h, e.symm⟩)
      rw [List.find?_cons_of_neg (by simpa using hne)]
      exact ih hk2.2 h
/-- The holders of a name, and whether one has it exclusively. -/
def holdersP (t : T) (s : Nm) : List Int × Bool := (sortZ (ids (t.hs.filter fun c => (val c.ns s).isSome)), t.hs.any fun c => (val c.ns s).getD false)
/-- What stands ahead of an owner in a list, and its claim. -/
def cutAt : List Cl → Int → Option (List Cl × Cl)
  | [], _ => none
  | c :: l, o => if c.id = o then some ([], c) else (cutAt l o).map fun p => (c :: p.1, p.2)
theorem cutAt_some : ∀ {l : List Cl} {o : Int} {p : List Cl × Cl}, cutAt l o = some p → ∃ post, l = p.1 ++ p.2 :: post ∧ p.2.id = o
  | [], _, _, h => by cases h
  | c :: l, o, p, h => by
    rw [cutAt] at h
    split at h
    · cases h
      exact ⟨l, rfl, by assumption⟩
    · rw [Option.map_eq_some_iff] at h
      obtain ⟨q, h1, rfl⟩ := h
      obtain ⟨post, h2, h3⟩ := cutAt_some h1
      exact ⟨post, by rw [h2]; rfl, h3⟩
theorem cutAt_at : ∀ {pre post : List Cl} {c : Cl}, c.id ∉ ids pre → cutAt (pre ++ c :: post) c.id = some (pre, c)
  | [], post, c, _ => by simp [cutAt]
  | a :: pre, post, c, h => by
    have h1 : ¬ a.id = c.id := fun e => h (by simp [ids, e])
    rw [List.cons_append, cutAt, if_neg h1, cutAt_at (fun hm => h (by simp only [ids, List.map_cons, List.mem_cons]; exact .inr hm))]
    rfl
theorem cutAt_none : ∀ {l : List Cl} {o : Int}, o ∉ ids l → cutAt l o = none
  | [], _, _ => rfl
  | a :: l, o, h => by
    have h1 : ¬ a.id = o := fun e => h (by simp [ids, e])
    rw [cutAt, if_neg h1, cutAt_none (fun hm => h (by simp only [ids, List.map_cons, List.mem_cons]; exact .inr hm))]
    rfl
/-- The owners for which an owner waits. -/
def blocksP (t : T) (o : Int) : List Int := match cutAt t.ws o with
  | none => []
  | some p => sortZ (ids (blk t.hs p.2 ++ blk p.1 p.2))
/-- EnqueueExclusive, first part. -/
theorem ex_conf {t : T} (i : Inv t) {a b : Int} (h : a ≠ b) : conf ⟨a, heldP t a⟩ ⟨b, heldP t b⟩ = false := by
  cases hc : conf ⟨a, heldP t a⟩ ⟨b, heldP t b⟩ with
  | false => rfl
  | true =>
    obtain ⟨h1, h2⟩ := conf_ne hc
    obtain ⟨c, hc1, rfl, e1⟩ := held_some h1
    obtain ⟨d, hd1, rfl, e2⟩ := held_some h2
    rw [e1, e2] at hc
    rw [i.compat c hc1 d hd1 h] at hc
    cases hc
/-- EnqueueExclusive, second part. -/
theorem ex_holders {t : T} (i : Inv t) (hg : ∀ c ∈ t.hs, (names c.ns).Nodup) {a : Int} {x : Nm × Bool} (hx : x ∈ heldP t a) : a ∈ (holdersP t x.1).1 ∧ (x.2 = true → (holdersP t x.1).1.length ≤ 1) ∧ (holdersP t x.1).2 = x.2 := by
  have hne : heldP t a ≠ [] := fun e => by rw [e] at hx; cases hx
  obtain ⟨c, hc, rfl, e⟩ := held_some hne
  rw [e] at hx
  obtain ⟨s, y⟩ := x
  have hv := val_of (hg c hc) hx
  have key : ∀ d ∈ t.hs, ∀ z, val d.ns s = some z → (y || z) = true → d.id = c.id := by
    intro d hd z hz hyz
    by_cases he : d.id = c.id
    · exact he
    · have := i.compat c hc d hd (fun e => he e.symm)
      have h2 : conf c d = true := conf_iff.2 ⟨(s, y), hx, (s, z), val_mem hz, rfl, hyz⟩
      rw [h2] at this
      cases this
  have uniq : ∀ d ∈ t.hs, d.id = c.id → d = c := by
    intro d hd he
    have h1 := find_id i.hold hd
    have h2 := find_id i.hold hc
    rw [he, h2] at h1
    exact (Option.some.inj h1).symm
  refine ⟨?_, fun hy => ?_, ?_⟩
  · unfold holdersP
    rw [mem_sortZ]
    exact List.mem_map.2 ⟨c, List.mem_filter.2 ⟨hc, by simp [hv]⟩, rfl⟩
  · unfold holdersP
    rw [len_sortZ]
    have hall : ∀ n ∈ ids (t.hs.filter fun c => (val c.ns s).isSome), n = c.id := by
      intro n hn
      obtain ⟨d, hd, rfl⟩ := List.mem_map.1 hn
      obtain ⟨hd1, hd2⟩ := List.mem_filter.1 hd
      obtain ⟨z, hz⟩ := Option.isSome_iff_exists.1 hd2
      have hy' : y = true := hy
      exact key d hd1 z hz (by rw [hy']; rfl)
    have hnd : (ids (t.hs.filter fun c => (val c.ns s).isSome)).Nodup := by
      refine i.hold.sublist ?_
      unfold ids
      exact List.filter_sublist.map _
    generalize ids (t.hs.filter fun c => (val c.ns s).isSome) = l at hall hnd
    match l, hall, hnd with
    | [], _, _ => simp
    | [_], _, _ => simp
    | a :: b :: l, hall, hnd =>
      have h1 := hall a (by simp)
      have h2 := hall b (by simp)
      rw [h1, h2] at hnd
      simp at hnd
  · unfold holdersP
    show (t.hs.any fun c => (val c.ns s).getD false) = y
    cases y with
    | true =>
      rw [List.any_eq_true]
      exact ⟨c, hc, by simp [hv]⟩
    | false =>
      rw [List.any_eq_false]
      intro d hd
      cases hz : val d.ns s with
      | none => simp
      | some z =>
        cases z with
        | false => simp
        | true =>
          obtain rfl := uniq d hd (key d hd true hz rfl)
          rw [hv] at hz
          cases hz
theorem blk_app (a b : List Cl) (c : Cl) : blk (a ++ b) c = blk a c ++ blk b c := List.filter_append ..
theorem Inv.notPre {t : T} (i : Inv t) {pre post : List Cl} {c : Cl} (h : t.ws = pre ++ c :: post) : c.id ∉ ids pre := by
  have := i.wait
  rw [h, ids_append, List.nodup_append] at this
  exact fun hm => this.2.2 _ hm c.id (by simp [ids]) rfl
/-- EnqueueOrder. -/
theorem or_blocks {t : T} (i : Inv t) {pre post : List Cl} {c : Cl} (h : t.ws = pre ++ c :: post) : heldP t c.id = [] ∧ blocksP t c.id ≠ [] ∧ ∀ b ∈ blocksP t c.id, b ∈ ids pre ∨ heldP t b ≠ [] := by
  have hcut : cutAt t.ws c.id = some (pre, c) := by rw [h]; exact cutAt_at (i.notPre h)
  have hb : blocksP t c.id = sortZ (ids (blk t.hs c ++ blk pre c)) := by unfold blocksP; rw [hcut]
  refine ⟨held_none fun hm => ?_, ?_, ?_⟩
  · obtain ⟨d, hd, e⟩ := List.mem_map.1 hm
    exact i.apart hd (by rw [h]; simp) e
  · rw [hb]
    refine sortZ_nil fun e => i.busy pre c post h ?_
    rw [blk_app]
    exact List.map_eq_nil_iff.1 e
  · intro b hm
    rw [hb, mem_sortZ, ids_append, List.mem_append] at hm
    rcases hm with hm | hm
    · right
      obtain ⟨d, hd, rfl⟩ := List.mem_map.1 hm
      obtain ⟨h1, h2⟩ := mem_blk.1 hd
      rw [held_mem i h1]
      exact (conf_ne h2).1
    · left
      obtain ⟨d, hd, rfl⟩ := List.mem_map.1 hm
      exact List.mem_map.2 ⟨d, (mem_blk.1 hd).1, rfl⟩
/-- EnqueueMoves: what is still to be released is just who holds something. -/
structure Mv (t : T) (next : List Int) : Prop where
  inv : Inv t
  once : next.Nodup
  all : ∀ n, n ∈ next ↔ heldP t n ≠ []
theorem look_eq (t : T) : ∃ g r : List Cl, look t = (⟨t.hs ++ g, r⟩, ids g) ∧ g.Sublist t.ws ∧ r.Sublist t.ws ∧ (g ++ r).Perm t.ws := by
  obtain ⟨g, r, h1, h2, h3, h4⟩ := lookGo_parts t.ws t.hs [] []
  exact ⟨g, r, by unfold look; rw [h1]; simp, h2, h3, h4⟩
theorem mem_ids {l : List Cl} {c : Cl} (h : c ∈ l) : c.id ∈ ids l := List.mem_map.2 ⟨c, h, rfl⟩
theorem Inv.waitNe {t : T} (i : Inv t) {c : Cl} (h : c ∈ t.ws) : c.ns ≠ [] := by
  obtain ⟨pre, post, e⟩ := List.append_of_mem h
  have h1 := i.busy pre c post e
  intro e2
  apply h1
  rw [blk_nil]
  intro x hx
  cases hc : conf x c with
  | false => rfl
  | true => exact absurd e2 (conf_ne hc).2
theorem drop_ids {l : List Cl} {o n : Int} : n ∈ ids (drop l o) ↔ n ∈ ids l ∧ n ≠ o := by
  constructor
  · intro h
    obtain ⟨c, hc, rfl⟩ := List.mem_map.1 h
    obtain ⟨h1, h2⟩ := mem_drop.1 hc
    exact ⟨mem_ids h1, h2⟩
  · rintro ⟨h, hn⟩
    obtain ⟨c, hc, rfl⟩ := List.mem_map.1 h
    exact mem_ids (mem_drop.2 ⟨hc, hn⟩)
theorem drop_none {l : List Cl} {o : Int} (h : o ∉ ids l) : drop l o = l := by
  unfold drop
  rw [List.filter_eq_self]
  intro c hc
  simp only [decide_eq_true_eq]
  exact fun e => h (e ▸ mem_ids hc)
theorem Mv.step {t : T} {n : Int} {next : List Int} (m : Mv t (n :: next)) : inT t n = true ∧ Mv (release t n).1 (next ++ (release t n).2) ∧ (∀ k, k ∈ ids (release t n).1.ws ↔ k ∈ ids t.ws ∧ k ∉ (release t n).2) ∧ ((release t n).1.hs ++ (release t n).1.ws).length + 1 = (t.hs ++ t.ws).length := by
  have hh : heldP t n ≠ [] := (m.all n).1 (by simp)
  obtain ⟨c, hc, rfl, _⟩ := held_some hh
  have hnw : c.id ∉ ids t.ws := fun hm => by
    obtain ⟨d, hd, e⟩ := List.mem_map.1 hm
    exact m.inv.apart hc hd e.symm
  have hdw : drop t.ws c.id = t.ws := drop_none hnw
  obtain ⟨g, r, h1, h2, h3, h4⟩ := look_eq ⟨drop t.hs c.id, drop t.ws c.id⟩
  rw [hdw] at h2 h3 h4
  have hrel : release t c.id = (⟨drop t.hs c.id ++ g, r⟩, ids g) := h1
  have hinv := release_inv m.inv c.id
  rw [hrel] at hinv ⊢
  have hnd := List.nodup_cons.1 m.once
  have hgr : ∀ k, k ∈ ids t.ws ↔ k ∈ ids g ∨ k ∈ ids r := fun k => by
    have := (h4.map (·.id)).mem_iff (a := k)
    rw [List.map_append, List.mem_append] at this
    exact this.symm
  have hgrd : ∀ k, k ∈ ids g → k ∉ ids r := fun k hk hr => by
    obtain ⟨d, hd, e⟩ := List.mem_map.1 hk
    obtain ⟨d', hd', e'⟩ := List.mem_map.1 hr
    exact hinv.apart (a := d) (b := d') (by simp [hd]) hd' (by rw [e, e'])
  refine ⟨by simp only [inT, decide_eq_true_eq, ids_append]; exact List.mem_append_left _ (mem_ids hc), ⟨hinv, ?_, fun k => ?_⟩, fun k => ?_, ?_⟩
  · rw [List.nodup_append]
    refine ⟨hnd.2, ?_, ?_⟩
    · have := hinv.hold
      simp only [ids_append, List.nodup_append] at this
      exact this.2.1
    · intro a ha b hb e
      subst e
      obtain ⟨d, hd, e1, _⟩ := held_some ((m.all a).1 (by simp [ha]))
      obtain ⟨d', hd', e2⟩ := List.mem_map.1 hb
      exact m.inv.apart hd (h2.subset hd') (by rw [e1, e2])
  · rw [List.mem_append]
    constructor
    · rintro (hk | hk)
      · obtain ⟨d, hd, rfl, e⟩ := held_some ((m.all k).1 (by simp [hk]))
        have hne : d.id ≠ c.id := fun e => hnd.1 (e ▸ hk)
        rw [held_mem hinv (c := d) (by simp [mem_drop, hd, hne])]
        have := (m.all d.id).1 (by simp [hk])
        rwa [e] at this
      · obtain ⟨d, hd, rfl⟩ := List.mem_map.1 hk
        rw [held_mem hinv (c := d) (by simp [hd])]
        exact m.inv.waitNe (h2.subset hd)
    · intro hk
      obtain ⟨d, hd, rfl, e⟩ := held_some hk
      rcases List.mem_append.1 hd with hd1 | hd1
      · left
        obtain ⟨hd2, hd3⟩ := mem_drop.1 hd1
        have : d.id ∈ c.id :: next := (m.all d.id).2 (by rw [held_mem m.inv hd2, ← e]; exact hk)
        exact (List.mem_cons.1 this).resolve_left hd3
      · exact .inr (mem_ids hd1)
  · rw [hgr]
    exact ⟨fun hk => ⟨.inr hk, fun hg => hgrd k hg hk⟩, fun ⟨h, hn⟩ => h.resolve_left hn⟩
  · have hl := h4.length_eq
    have hd : (drop t.hs c.id).length + 1 = t.hs.length := by
      have hh := m.inv.hold
      clear hnw hdw h1 h2 h3 h4 hrel hinv hgr hgrd hl
      generalize t.hs = l at hc hh
      induction l with
      | nil => cases hc
      | cons a l ih =>
        have h' := List.nodup_cons.1 (show (a.id :: ids l).Nodup from hh)
        rcases List.mem_cons.1 hc with rfl | hc
        · have : drop (c :: l) c.id = drop l c.id := by simp [drop]
          rw [this, drop_none h'.1]
          rfl
        · have hne : a.id ≠ c.id := fun e => h'.1 (e ▸ mem_ids hc)
          have : drop (a :: l) c.id = a :: drop l c.id := by simp [drop, hne]
          rw [this]
          simp only [List.length_cons]
          rw [ih hc h'.2]
    simp at hl ⊢
    omega
theorem Mv.done {t : T} (m : Mv t []) : t.ws = [] := by
  cases h : t.ws with
  | nil => rfl
  | cons c post =>
    exfalso
    refine m.inv.busy [] c post h ?_
    rw [List.append_nil, blk_nil]
    intro x hx
    cases hc : conf x c with
    | false => rfl
    | true =>
      have h1 : heldP t x.id ≠ [] := by rw [held_mem m.inv hx]; exact (conf_ne hc).1
      have := (m.all x.id).2 h1
      cases this
end P43
