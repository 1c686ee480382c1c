/- The calls on a table in plain Lean: asked, given back, shared; what holds after any calls. -/
import Derived.Test.YtojbddcbnnbklaaGreatDoorEnq
namespace P43
/-- A call: its kind, its owner, the locks, a name. -/
structure OpL where
  (kind owner : Int) (l : List (Nm × Bool)) (name : Nm)
  deriving DecidableEq
def leN (a b : Nm × Bool) : Bool := decide (a.1 ≤ b.1)
def sortN (l : List (Nm × Bool)) : List (Nm × Bool) := l.mergeSort leN
def names (l : List (Nm × Bool)) : List Nm := l.map (·.1)
/-- The names are different and stand in order. -/
structure Srt (l : List (Nm × Bool)) : Prop where
  up : l.Pairwise fun a b => leN a b = true
  once : (names l).Nodup
theorem sortN_perm (l : List (Nm × Bool)) : (sortN l).Perm l := List.mergeSort_perm _ _
theorem leN_trans (a b c : Nm × Bool) (h : leN a b = true) (k : leN b c = true) : leN a c = true := by
  simp only [leN, decide_eq_true_eq] at *
  exact List.le_trans h k
theorem leN_total (a b : Nm × Bool) : (leN a b || leN b a) = true := by
  simp only [leN, Bool.or_eq_true, decide_eq_true_eq]
  exact List.le_total _ _
theorem sortN_srt {l : List (Nm × Bool)} (h : (names l).Nodup) : Srt (sortN l) :=
  ⟨List.pairwise_mergeSort leN_trans leN_total l, ((sortN_perm l).map _).nodup_iff.2 h⟩
/-- A list is a wish. -/
def wishB (vb : Nm → Bool) (l : List (Nm × Bool)) : Bool := decide (l.length ≤ 256) && decide (names l).Nodup && l.all fun p => vb p.1
def inT (t : T) (o : Int) : Bool := decide (o ∈ ids (t.hs ++ t.ws))
def requestP (vb : Nm → Bool) (t : T) (o : Int) (l : List (Nm × Bool)) : T × Bool × Int :=
  if (decide (1 ≤ o ∧ o ≤ 1099511627776) && wishB vb l) = false then (t, false, 1) else if inT t o = true then (t, false, 5) else ((enter t ⟨o, sortN l⟩).1, (enter t ⟨o, sortN l⟩).2, 0)
def releaseP (t : T) (o : Int) : T × List Int × Int := if inT t o = true then ((release t o).1, (release t o).2, 0) else (t, [], 6)
/-- The wish of a holder; nothing for any other owner. -/
def heldP (t : T) (o : Int) : List (Nm × Bool) := ((t.hs.find? fun c => decide (c.id = o)).map (·.ns)).getD []
def shareP (t : T) (o : Int) (s : Nm) : T × List Int × Int := if s ∈ names (heldP t o) then ((share t o s).1, (share t o s).2, 0) else (t, [], 6)
/-- A call: the new table, whether the wish was granted at once, the owners that became holders, the error. -/
def callP (vb : Nm → Bool) (t : T) (o : OpL) : T × Bool × List Int × Int :=
  if o.kind = 0 then ((requestP vb t o.owner o.l).1, (requestP vb t o.owner o.l).2.1, [], (requestP vb t o.owner o.l).2.2)
  else if o.kind = 1 then ((releaseP t o.owner).1, false, (releaseP t o.owner).2.1, (releaseP t o.owner).2.2)
  else ((shareP t o.owner o.name).1, false, (shareP t o.owner o.name).2.1, (shareP t o.owner o.name).2.2)
def runP (vb : Nm → Bool) (l : List OpL) : T := l.foldl (fun t o => (callP vb t o).1) ⟨[], []⟩
/-- Calls that are short. -/
def Short (l : List OpL) : Prop := ∀ o ∈ l, o.l.length ≤ 12 ∧ o.name.length ≤ 60 ∧ ∀ p ∈ o.l, p.1.length ≤ 60
/-- A claim that a short call made. -/
structure GoodC (c : Cl) : Prop where
  srt : Srt c.ns
  len : c.ns.length ≤ 12
  nm : ∀ p ∈ c.ns, p.1.length ≤ 60
/-- What holds after the calls 'l'. -/
structure Good (t : T) (l : List OpL) : Prop where
  inv : Inv t
  good : ∀ c ∈ t.hs ++ t.ws, GoodC c
  own : ∀ c ∈ t.hs ++ t.ws, ∃ o ∈ l, o.owner = c.id
  len : (t.hs ++ t.ws).length ≤ l.length
theorem good_nil : Good ⟨[], []⟩ [] := ⟨inv_nil, by simp, by simp, by simp⟩
theorem look_sub (t : T) {c : Cl} (h : c ∈ (look t).1.hs ++ (look t).1.ws) : c ∈ t.hs ++ t.ws := by
  obtain ⟨g, r, h1, h2, h3, h4⟩ := lookGo_parts t.ws t.hs [] []
  unfold look at h
  rw [h1] at h
  simp only [List.nil_append, List.mem_append] at h ⊢
  rcases h with (h | h) | h
  · exact .inl h
  · exact .inr (h2.subset h)
  · exact .inr (h3.subset h)
theorem look_len (t : T) : ((look t).1.hs ++ (look t).1.ws).length = (t.hs ++ t.ws).length := by
  obtain ⟨g, r, h1, h2, h3, h4⟩ := lookGo_parts t.ws t.hs [] []
  unfold look
  rw [h1]
  have := h4.length_eq
  simp at this ⊢
  omega
theorem setF_names (c : Cl) (s : Nm) : names (setF c s).ns = names c.ns := by
  unfold names setF
  rw [List.map_map]
  refine List.map_congr_left fun p _ => ?_
  simp only [Function.comp]
  split <;> rfl
theorem setF_good {c : Cl} (h : GoodC c) (s : Nm) : GoodC (setF c s) := by
  refine ⟨⟨?_, by rw [setF_names]; exact h.srt.once⟩, by simpa [setF] using h.len, ?_⟩
  · refine List.pairwise_map.2 (h.srt.up.imp fun {a b} hab => ?_)
    simp only [leN, decide_eq_true_eq] at hab ⊢
    split <;> split <;> exact hab
  · intro p hp
    obtain ⟨q, hq, rfl⟩ := List.mem_map.1 hp
    split <;> exact h.nm q hq
theorem shareL_good {l : List Cl} (h : ∀ c ∈ l, GoodC c) (o : Int) (s : Nm) : ∀ c ∈ shareL l o s, GoodC c := by
  intro c hc
  obtain ⟨d, hd, rfl⟩ := List.mem_map.1 hc
  split
  · exact setF_good (h d hd) s
  · exact h d hd
theorem Good.more {t : T} {l : List OpL} (g : Good t l) (o : OpL) : Good t (l ++ [o]) :=
  ⟨g.inv, g.good, fun c hc => by obtain ⟨x, hx, e⟩ := g.own c hc; exact ⟨x, by simp [hx], e⟩, by have := g.len; simp at *; omega⟩
theorem Good.look {t : T} {l : List OpL} (hi : Inv (look t).1) (h1 : ∀ c ∈ t.hs ++ t.ws, GoodC c) (h2 : ∀ c ∈ t.hs ++ t.ws, ∃ o ∈ l, o.owner = c.id) (h3 : (t.hs ++ t.ws).length ≤ l.length) : Good (look t).1 l :=
  ⟨hi, fun c hc => h1 c (look_sub t hc), fun c hc => h2 c (look_sub t hc), by rw [look_len]; exact h3⟩
theorem good_request {vb : Nm → Bool} {t : T} {l : List OpL} (g : Good t l) (o : OpL) (ho : o.l.length ≤ 12 ∧ o.name.length ≤ 60 ∧ ∀ p ∈ o.l, p.1.length ≤ 60) : Good (requestP vb t o.owner o.l).1 (l ++ [o]) := by
  unfold requestP
  split
  · exact g.more o
  · rename_i h1
    split
    · exact g.more o
    · rename_i h2
      have hn : o.owner ∉ ids (t.hs ++ t.ws) := by simpa [inT] using h2
      have hw : (names o.l).Nodup := by
        have h3 := (Bool.not_eq_false _).mp h1
        simp only [wishB, Bool.and_eq_true, decide_eq_true_eq] at h3
        exact h3.2.1.2
      have gc : GoodC ⟨o.owner, sortN o.l⟩ := ⟨sortN_srt hw, by rw [(sortN_perm _).length_eq]; exact ho.1, fun p hp => ho.2.2 p ((sortN_perm _).subset hp)⟩
      have hm : ∀ c ∈ (enter t ⟨o.owner, sortN o.l⟩).1.hs ++ (enter t ⟨o.owner, sortN o.l⟩).1.ws, c ∈ t.hs ++ t.ws ∨ c = ⟨o.owner, sortN o.l⟩ := by
        intro c hc
        unfold enter at hc
        split at hc <;> simp at hc ⊢ <;> rcases hc with h | h | h <;> simp [h]
      refine ⟨enter_inv g.inv hn, fun c hc => ?_, fun c hc => ?_, ?_⟩
      · rcases hm c hc with h | rfl
        · exact g.good c h
        · exact gc
      · rcases hm c hc with h | rfl
        · obtain ⟨x, hx, e⟩ := g.own c h
          exact ⟨x, by simp [hx], e⟩
        · exact ⟨o, by simp, rfl⟩
      · have := g.len
        unfold enter
        split <;> simp at this ⊢ <;> omega
theorem good_release {t : T} {l : List OpL} (g : Good t l) (o : Int) : Good (releaseP t o).1 l := by
  unfold releaseP
  split
  · have hm : ∀ c ∈ drop t.hs o ++ drop t.ws o, c ∈ t.hs ++ t.ws := by
      intro c hc
      simp only [List.mem_append, mem_drop] at hc ⊢
      rcases hc with h | h
      · exact .inl h.1
      · exact .inr h.1
    refine Good.look (t := ⟨drop t.hs o, drop t.ws o⟩) (release_inv g.inv o) (fun c hc => g.good c (hm c hc)) (fun c hc => g.own c (hm c hc)) ?_
    have := g.len
    have h1 := (drop_sub t.hs o).length_le
    have h2 := (drop_sub t.ws o).length_le
    simp at this ⊢
    omega
  · exact g
theorem good_share {t : T} {l : List OpL} (g : Good t l) (o : Int) (s : Nm) : Good (shareP t o s).1 l := by
  unfold shareP
  split
  · refine Good.look (t := ⟨shareL t.hs o s, t.ws⟩) (share_inv g.inv o s) (fun c hc => ?_) (fun c hc => ?_) ?_
    · rcases List.mem_append.1 hc with h | h
      · exact shareL_good (fun c hc => g.good c (List.mem_append_left _ hc)) o s c h
      · exact g.good c (List.mem_append_right _ h)
    · rcases List.mem_append.1 hc with h | h
      · obtain ⟨y, hy, e, _⟩ := shareL_conf h
        rw [← e]
        exact g.own y (List.mem_append_left _ hy)
      · exact g.own c (List.mem_append_right _ h)
    · have := g.len
      simp [shareL] at this ⊢
      omega
  · exact g
theorem Good.app {t : T} {l : List OpL} (g : Good t l) (o : OpL) : Good t (l ++ [o]) := g.more o
theorem good_call {vb : Nm → Bool} {t : T} {l : List OpL} (g : Good t l) (o : OpL) (ho : o.l.length ≤ 12 ∧ o.name.length ≤ 60 ∧ ∀ p ∈ o.l, p.1.length ≤ 60) : Good (callP vb t o).1 (l ++ [o]) := by
  unfold callP
  split
  · exact good_request g o ho
  · split
    · exact (good_release g _).more o
    · exact (good_share g _ _).more o
theorem runP_snoc (vb : Nm → Bool) (l : List OpL) (o : OpL) : runP vb (l ++ [o]) = (callP vb (runP vb l) o).1 := by
  unfold runP
  rw [List.foldl_append]
  rfl
theorem good_run {vb : Nm → Bool} : ∀ (n : Nat) (l : List OpL), Short l → Good (runP vb (l.take n)) (l.take n)
  | 0, l, _ => by rw [List.take_zero]; exact good_nil
  | n + 1, l, hs => by
    rw [List.take_add_one]
    cases h : l[n]? with
    | none => simpa using good_run n l hs
    | some o =>
      show Good (runP vb (l.take n ++ [o])) (l.take n ++ [o])
      rw [runP_snoc]
      exact good_call (good_run n l hs) o (hs o (List.mem_of_getElem? h))
theorem good_runAll {vb : Nm → Bool} {l : List OpL} (hs : Short l) : Good (runP vb l) l := by
  have := good_run (vb := vb) l.length l hs
  rwa [List.take_length] at this
/-- A claim is found by its owner. -/
theorem find_id {l : List Cl} (h : (ids l).Nodup) {c : Cl} (hc : c ∈ l) : (l.find? fun x => decide (x.id = c.id)) = some c := by
  induction l with
  | nil => cases hc
  | cons a l ih =>
    have h' := List.nodup_cons.1 (show (a.id :: ids l).Nodup from h)
    rcases List.mem_cons.1 hc with rfl | hc
    · simp
    · have hne : a.id ≠ c.id := fun e => h'.1 (List.mem_map.2 ⟨c, hc, e.symm⟩)
      rw [List.find?_cons_of_neg (by simpa using hne)]
      exact ih h'.2 hc
theorem Inv.hold {t : T} (i : Inv t) : (ids t.hs).Nodup := by
  have := i.once
  rw [ids_append, List.nodup_append] at this
  exact this.1
theorem Inv.wait {t : T} (i : Inv t) : (ids t.ws).Nodup := by
  have := i.once
  rw [ids_append, List.nodup_append] at this
  exact this.2.1
theorem Inv.apart {t : T} (i : Inv t) {a b : Cl} (ha : a ∈ t.hs) (hb : b ∈ t.ws) : a.id ≠ b.id := by
  have := i.once
  rw [ids_append, List.nodup_append] at this
  exact this.2.2 _ (List.mem_map.2 ⟨a, ha, rfl⟩) _ (List.mem_map.2 ⟨b, hb, rfl⟩)
theorem held_mem {t : T} (i : Inv t) {c : Cl} (h : c ∈ t.hs) : heldP t c.id = c.ns := by
  unfold heldP
  rw [find_id i.hold h]
  rfl
theorem held_some {t : T} {o : Int} (h : heldP t o ≠ []) : ∃ c ∈ t.hs, c.id = o ∧ heldP t o = c.ns := by
  unfold heldP at h ⊢
  cases e : t.hs.find? fun c => decide (c.id = o) with
  | none => rw [e] at h; simp at h
  | some c => exact ⟨c, List.mem_of_find?_eq_some e, by simpa using List.find?_some e, rfl⟩
theorem held_none {t : T} {o : Int} (h : o ∉ ids t.hs) : heldP t o = [] := by
  cases e : heldP t o with
  | nil => rfl
  | cons p ps =>
    obtain ⟨c, hc, h1, _⟩ := held_some (t := t) (o := o) (by rw [e]; simp)
    exact absurd (List.mem_map.2 ⟨c, hc, h1⟩) h
theorem conf_ne {a b : Cl} (h : conf a b = true) : a.ns ≠ [] ∧ b.ns ≠ [] := by
  rw [conf_iff] at h
  obtain ⟨p, hp, q, hq, _⟩ := h
  exact ⟨fun e => (by rw [e] at hp; cases hp), fun e => (by rw [e] at hq; cases hq)⟩
end P43
