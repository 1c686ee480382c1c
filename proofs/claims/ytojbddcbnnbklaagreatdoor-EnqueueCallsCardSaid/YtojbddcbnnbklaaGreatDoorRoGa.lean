/- The reference's table beside the plain one: its holders stand by their numbers. Plain Lean. The reference's steps on its table, a wish put in order, names' parts: plain Lean. The reference's owners in memory: each with its wish's slice; plain theorems. The reference's index and conflict. The reference's Waiting. The reference's without. The reference's Held. -/
import Derived.Test.YtojbddcbnnbklaaGreatDoorEnqS
import Derived.Test.YtojbddcbnnbklaaGreatDoorClSame2
import Derived.Deep.QuietTactic
import Derived.BigQuiet
namespace P43
/-- Two ascending lists of the same numbers are one. -/
theorem asc_eq {l m : List Int} (hl : l.Pairwise (· ≤ ·)) (hm : m.Pairwise (· ≤ ·)) (hp : l.Perm m) : l = m :=
  hp.eq_of_pairwise (fun a b _ _ h1 h2 => by omega) hl hm
theorem sortZ_asc (l : List Int) : (sortZ l).Pairwise (· ≤ ·) := by
  have := List.pairwise_mergeSort (le := fun x y : Int => decide (x ≤ y)) (fun a b c h1 h2 => by simp at *; omega) (fun a b => by simp; omega) l
  exact this.imp (fun h => by simpa using h)
theorem sortZ_perm (l : List Int) : (sortZ l).Perm l := List.mergeSort_perm l _
theorem sortZ_eq {l m : List Int} (hl : l.Pairwise (· ≤ ·)) (hp : l.Perm m) : sortZ m = l := asc_eq (sortZ_asc m) hl ((sortZ_perm m).trans hp.symm)
/-- Where one goes in: all from k on are greater, the one before k is not. -/
structure InsAt {α : Type} (f : α → Int) (l : List α) (n : Int) (k : Nat) : Prop where
  le : k ≤ l.length
  after : ∀ j x, k ≤ j → l[j]? = some x → n < f x
  before : k = 0 ∨ ∃ x, l[k - 1]? = some x ∧ f x ≤ n
theorem ins_asc {α : Type} {f : α → Int} {l : List α} (h : l.Pairwise fun a b => f a ≤ f b) {y : α} {k : Nat} (i : InsAt f l (f y) k) : (l.take k ++ y :: l.drop k).Pairwise fun a b => f a ≤ f b := by
  rw [List.pairwise_append]
  have h0 := h
  rw [← List.take_append_drop k l, List.pairwise_append] at h0
  refine ⟨h0.1, List.Pairwise.cons (fun b hb => ?_) h0.2.1, fun a ha b hb => ?_⟩
  · obtain ⟨j, hj⟩ := List.mem_iff_getElem?.1 hb
    rw [List.getElem?_drop] at hj
    have := i.after (k + j) b (Nat.le_add_right _ _) hj
    omega
  · rcases List.mem_cons.1 hb with rfl | hb
    · rcases i.before with e | ⟨x, hx, hle⟩
      · subst e
        simp at ha
      · obtain ⟨j, hj⟩ := List.mem_iff_getElem?.1 ha
        have hjk : j < k := by
          have := (List.getElem?_eq_some_iff.1 hj).1
          rw [List.length_take] at this
          omega
        rw [List.getElem?_take_of_lt hjk] at hj
        by_cases e : j = k - 1
        · subst e
          rw [hj] at hx
          cases hx
          exact hle
        · have hlt : j < k - 1 := by omega
          obtain ⟨hj1, ej⟩ := List.getElem?_eq_some_iff.1 hj
          obtain ⟨hk1, ek⟩ := List.getElem?_eq_some_iff.1 hx
          have := List.pairwise_iff_getElem.1 h j (k - 1) hj1 hk1 hlt
          rw [ej, ek] at this
          omega
    · exact h0.2.2 a ha b hb
theorem ins_perm {α : Type} (l : List α) (y : α) (k : Nat) : (l.take k ++ y :: l.drop k).Perm (y :: l) := by
  have h1 : (l.take k ++ y :: l.drop k).Perm (y :: (l.take k ++ l.drop k)) := List.perm_middle
  rwa [List.take_append_drop] at h1
/-- add. -/
theorem ins_sortZ {l : List Int} (h : l.Pairwise (· ≤ ·)) {n : Int} {k : Nat} (i : InsAt id l n k) : l.take k ++ n :: l.drop k = sortZ (l ++ [n]) :=
  (sortZ_eq (ins_asc (f := id) h i) ((ins_perm l n k).trans (by have := List.perm_append_comm (l₁ := l) (l₂ := [n]); exact this.symm))).symm
/-- Claims by their numbers. -/
def ByNo (l : List Cl) : Prop := l.Pairwise fun a b => a.id ≤ b.id
theorem byNo_eq {l m : List Cl} (hl : ByNo l) (hm : ByNo m) (hn : (ids l).Nodup) (hp : l.Perm m) : l = m :=
  hp.eq_of_pairwise (fun a b ha hb h1 h2 => by
    have e : a.id = b.id := by omega
    have h3 := find_id hn ha
    have h4 := find_id hn (hp.symm.subset hb)
    rw [e, h4] at h3
    exact (Option.some.inj h3).symm) hl hm
/-- The reference's table r stands for t. -/
structure RT (r t : T) : Prop where
  by_ : ByNo r.hs
  perm : r.hs.Perm t.hs
  wait : r.ws = t.ws
theorem blk_perm {l m : List Cl} (h : l.Perm m) (c : Cl) : (blk l c).Perm (blk m c) := h.filter _
theorem blk_nil_perm {l m : List Cl} (h : l.Perm m) (c : Cl) : blk l c = [] ↔ blk m c = [] := by
  rw [blk_nil, blk_nil]
  exact ⟨fun k x hx => k x (h.symm.subset hx), fun k x hx => k x (h.subset hx)⟩
end P43
namespace P43
/-- One put in between. -/
theorem ins_pair {α : Type} {R : α → α → Prop} (tr : ∀ a b c, R a b → R b c → R a c) {l : List α} (h : l.Pairwise R) {y : α} {k : Nat} (ha : ∀ j x, k ≤ j → l[j]? = some x → R y x) (hb : k = 0 ∨ ∃ x, l[k - 1]? = some x ∧ R x y) : (l.take k ++ y :: l.drop k).Pairwise R := by
  rw [List.pairwise_append]
  have h0 := h
  rw [← List.take_append_drop k l, List.pairwise_append] at h0
  have hy : ∀ b ∈ l.drop k, R y b := fun b hb => by
    obtain ⟨j, hj⟩ := List.mem_iff_getElem?.1 hb
    rw [List.getElem?_drop] at hj
    exact ha (k + j) b (Nat.le_add_right _ _) hj
  refine ⟨h0.1, List.Pairwise.cons hy h0.2.1, fun a ha' b hb' => ?_⟩
  rcases List.mem_cons.1 hb' with rfl | hb'
  · rcases hb with e | ⟨x, hx, hle⟩
    · subst e
      simp at ha'
    · obtain ⟨j, hj⟩ := List.mem_iff_getElem?.1 ha'
      have hjk : j < k := by
        have := (List.getElem?_eq_some_iff.1 hj).1
        rw [List.length_take] at this
        omega
      rw [List.getElem?_take_of_lt hjk] at hj
      by_cases e : j = k - 1
      · subst e
        rw [hj] at hx
        cases hx
        exact hle
      · have hlt : j < k - 1 := by omega
        obtain ⟨hj1, ej⟩ := List.getElem?_eq_some_iff.1 hj
        obtain ⟨hk1, ek⟩ := List.getElem?_eq_some_iff.1 hx
        have := List.pairwise_iff_getElem.1 h j (k - 1) hj1 hk1 hlt
        rw [ej, ek] at this
        exact tr _ _ _ this hle
  · exact h0.2.2 a ha' b hb'
theorem nm_lt {a b : Nm} (h1 : ¬ b < a) (h2 : a ≠ b) : a < b := by
  by_cases h : a < b
  · exact h
  · have e : a = b := List.le_antisymm h1 h
    exact absurd e h2
theorem Srt.lt {l : List (Nm × Bool)} (h : Srt l) : l.Pairwise fun a b => a.1 < b.1 := by
  have h1 := h.up
  have h2 : l.Pairwise fun a b => a.1 ≠ b.1 := by
    have := h.once
    unfold names List.Nodup at this
    rwa [List.pairwise_map] at this
  refine (List.pairwise_and_iff.2 ⟨h1, h2⟩).imp fun {a b} h => ?_
  have := h.1
  simp only [leN, decide_eq_true_eq] at this
  exact nm_lt this h.2
theorem Srt.of_lt {l : List (Nm × Bool)} (h : l.Pairwise fun a b => a.1 < b.1) : Srt l := by
  refine ⟨h.imp fun {a b} h => ?_, ?_⟩
  · simp only [leN, decide_eq_true_eq]
    exact fun h2 => List.lt_irrefl a.1 (List.lt_trans h h2)
  · unfold names List.Nodup
    rw [List.pairwise_map]
    exact h.imp fun {a b} h e => by rw [e] at h; exact List.lt_irrefl b.1 h
theorem srt_eq {l m : List (Nm × Bool)} (hl : Srt l) (hm : Srt m) (hp : l.Perm m) : l = m :=
  hp.eq_of_pairwise (fun a b ha hb h1 h2 => by
    simp only [leN, decide_eq_true_eq] at h1 h2
    have e : a.1 = b.1 := List.le_antisymm h1 h2
    have h3 := val_of hl.once (s := a.1) (x := a.2) ha
    have h4 := val_of hl.once (s := b.1) (x := b.2) (hp.symm.subset hb)
    rw [e, h4] at h3
    exact Prod.ext e (Option.some.inj h3).symm) hl.up hm.up
/-- Where a name goes in. -/
structure NmAt (l : List (Nm × Bool)) (s : Nm) (k : Nat) : Prop where
  after : ∀ j x, k ≤ j → l[j]? = some x → s < x.1
  before : k = 0 ∨ ∃ x, l[k - 1]? = some x ∧ x.1 < s
theorem ins_sortN {l : List (Nm × Bool)} {q : Nm × Bool} {k : Nat} (hn : (names l).Nodup) (i : NmAt (sortN l) q.1 k) : (names (l ++ [q])).Nodup ∧ (sortN l).take k ++ q :: (sortN l).drop k = sortN (l ++ [q]) := by
  have h1 := Srt.of_lt (ins_pair (R := fun a b : Nm × Bool => a.1 < b.1) (fun a b c h k => List.lt_trans h k) (sortN_srt hn).lt (y := q) i.after i.before)
  have h2 : ((sortN l).take k ++ q :: (sortN l).drop k).Perm (l ++ [q]) := (ins_perm (sortN l) q k).trans (((sortN_perm l).cons q).trans (List.perm_append_comm (l₁ := [q]) (l₂ := l)))
  have h3 : (names (l ++ [q])).Nodup := (h2.map Prod.fst).nodup_iff.1 h1.once
  exact ⟨h3, srt_eq h1 (sortN_srt h3) (h2.trans (sortN_perm _).symm)⟩
theorem sortZ_congr {l m : List Int} (h : l.Perm m) : sortZ l = sortZ m := sortZ_eq (sortZ_asc m) ((sortZ_perm m).trans h.symm)
theorem sortZ_snoc (l : List Int) (n : Int) : sortZ (sortZ l ++ [n]) = sortZ (l ++ [n]) := sortZ_congr ((sortZ_perm l).append_right _)
theorem ByNo.asc {l : List Cl} (h : ByNo l) : (ids l).Pairwise (· ≤ ·) := by
  unfold ids
  rw [List.pairwise_map]
  exact h
theorem sortZ_asc_eq {l : List Int} (h : l.Pairwise (· ≤ ·)) : sortZ l = l := sortZ_eq h (List.Perm.refl l)
section
variable {r t : T} {o : Int} {s : Nm} {c : Cl}
theorem RT.inT (h : RT r t) : inT r o = inT t o := by
  unfold P43.inT
  rw [Bool.eq_iff_iff, decide_eq_true_eq, decide_eq_true_eq, ids_append, ids_append, List.mem_append, List.mem_append, h.wait]
  have := (h.perm.map (·.id)).mem_iff (a := o)
  unfold ids
  rw [this]
theorem RT.hold (h : RT r t) {k : Nat} (i : InsAt Cl.id r.hs c.id k) : RT ⟨r.hs.take k ++ c :: r.hs.drop k, r.ws⟩ ⟨t.hs ++ [c], t.ws⟩ :=
  ⟨ins_asc (f := Cl.id) h.by_ i, (ins_perm r.hs c k).trans ((h.perm.cons c).trans (List.perm_append_comm (l₁ := [c]) (l₂ := t.hs))), h.wait⟩
theorem RT.drop (h : RT r t) (o : Int) : RT ⟨P43.drop r.hs o, P43.drop r.ws o⟩ ⟨P43.drop t.hs o, P43.drop t.ws o⟩ :=
  ⟨List.Pairwise.sublist (drop_sub _ _) h.by_, h.perm.filter _, by rw [h.wait]⟩
theorem find_perm {l m : List Cl} (hp : l.Perm m) (hn : (ids l).Nodup) (o : Int) : (l.find? fun x => decide (x.id = o)) = m.find? fun x => decide (x.id = o) := by
  cases h : l.find? fun x => decide (x.id = o) with
  | none =>
    rw [List.find?_eq_none] at h
    exact (List.find?_eq_none.2 fun x hx => h x (hp.symm.subset hx)).symm
  | some c =>
    have h1 := List.find?_some h
    simp only [decide_eq_true_eq] at h1
    have h2 := find_id (((hp.map Cl.id).nodup_iff).1 hn) (hp.subset (List.mem_of_find?_eq_some h))
    rw [h1] at h2
    exact h2.symm
theorem RT.held (h : RT r t) (hn : (ids t.hs).Nodup) (o : Int) : heldP r o = heldP t o := by
  unfold heldP
  rw [find_perm h.perm (((h.perm.map Cl.id).nodup_iff).2 hn)]
theorem shareL_off {l : List Cl} (h : o ∉ ids l) (s : Nm) : shareL l o s = l := by
  unfold shareL
  conv => rhs; rw [← List.map_id l]
  refine List.map_congr_left fun x hx => ?_
  rw [if_neg fun e => h (by rw [← e]; exact mem_ids hx)]
  rfl
theorem share_perm {l : List Cl} (hn : (ids l).Nodup) (hc : c ∈ l) (s : Nm) : (P43.drop l c.id ++ [setF c s]).Perm (shareL l c.id s) := by
  obtain ⟨pre, post, rfl⟩ := List.append_of_mem hc
  have h1 : c.id ∉ ids pre := fun e => by
    rw [ids_append, List.nodup_append] at hn
    exact hn.2.2 _ e c.id (by simp [ids]) rfl
  have h2 : c.id ∉ ids post := fun e => by
    rw [ids_append, List.nodup_append] at hn
    have := hn.2.1
    simp only [ids, List.map_cons, List.nodup_cons] at this
    exact this.1 e
  have e1 : shareL (pre ++ c :: post) c.id s = pre ++ setF c s :: post := by
    have h3 := shareL_off h1 s
    have h4 := shareL_off h2 s
    unfold shareL at h3 h4 ⊢
    rw [List.map_append, List.map_cons, h3, h4, if_pos rfl]
  have e2 : P43.drop (pre ++ c :: post) c.id = pre ++ post := by
    have h3 := drop_none h1
    have h4 := drop_none h2
    unfold P43.drop at h3 h4 ⊢
    rw [List.filter_append, List.filter_cons_of_neg (by simp), h3, h4]
  rw [e1, e2]
  have := List.perm_middle (a := setF c s) (l₁ := pre) (l₂ := post)
  exact (List.perm_append_comm (l₁ := pre ++ post) (l₂ := [setF c s])).trans this.symm
theorem RT.owners (h : RT r t) : sortZ (ids (r.hs ++ r.ws)) = sortZ (ids (t.hs ++ t.ws)) := by
  rw [h.wait]
  exact sortZ_congr ((h.perm.append_right _).map _)
theorem RT.blocks (h : RT r t) (o : Int) : blocksP r o = blocksP t o := by
  unfold blocksP
  rw [h.wait]
  cases cutAt t.ws o with
  | none => rfl
  | some p => exact sortZ_congr (((blk_perm h.perm p.2).append_right _).map _)
/-- The holders of a name, as the reference finds them. -/
def holdsR (l : List Cl) (s : Nm) : List Int := l.flatMap fun x => (x.ns.filter fun p => decide (p.1 = s)).map fun _ => x.id
def aloneR (l : List Cl) (s : Nm) : Bool := l.any fun x => x.ns.any fun p => decide (p.1 = s) && p.2
theorem one_name : ∀ {ns : List (Nm × Bool)} (_ : (names ns).Nodup) (s : Nm), ns.filter (fun p => decide (p.1 = s)) = match val ns s with
    | none => []
    | some x => [(s, x)]
  | [], _, s => rfl
  | q :: ns, hn, s => by
    have hn2 := hn
    simp only [names, List.map_cons, List.nodup_cons] at hn2
    have ih := one_name (ns := ns) hn2.2 s
    unfold val at ih ⊢
    by_cases h : q.1 = s
    · subst h
      have h0 : ns.filter (fun p => decide (p.1 = q.1)) = [] := by
        rw [List.filter_eq_nil_iff]
        intro p hp
        simp only [decide_eq_true_eq]
        intro e
        exact hn2.1 (List.mem_map.2 ⟨p, hp, e⟩)
      rw [List.filter_cons_of_pos (by simp), List.find?_cons_of_pos (by simp), h0]
      rfl
    · rw [List.filter_cons_of_neg (by simpa using h), List.find?_cons_of_neg (by simpa using h)]
      exact ih
theorem holdsR_eq : ∀ {l : List Cl} (_ : ∀ x ∈ l, (names x.ns).Nodup) (s : Nm), holdsR l s = ids (l.filter fun c => (val c.ns s).isSome)
  | [], _, s => rfl
  | x :: l, h, s => by
    have ih := holdsR_eq (l := l) (fun y hy => h y (List.mem_cons_of_mem _ hy)) s
    unfold holdsR at ih ⊢
    rw [List.flatMap_cons, ih, one_name (h x (List.mem_cons_self ..)) s]
    cases hv : val x.ns s with
    | none => rw [List.filter_cons_of_neg (by simp [hv])]; rfl
    | some v => rw [List.filter_cons_of_pos (by simp [hv])]; rfl
theorem aloneR_eq {l : List Cl} (h : ∀ x ∈ l, (names x.ns).Nodup) (s : Nm) : aloneR l s = l.any fun c => (val c.ns s).getD false := by
  unfold aloneR
  rw [Bool.eq_iff_iff, List.any_eq_true, List.any_eq_true]
  constructor
  · rintro ⟨x, hx, h1⟩
    refine ⟨x, hx, ?_⟩
    obtain ⟨p, hp, h2⟩ := List.any_eq_true.1 h1
    simp only [Bool.and_eq_true, decide_eq_true_eq] at h2
    have := val_of (h x hx) (s := p.1) (x := p.2) hp
    rw [h2.1] at this
    rw [this]
    exact h2.2
  · rintro ⟨x, hx, h1⟩
    refine ⟨x, hx, ?_⟩
    cases hv : val x.ns s with
    | none => rw [hv] at h1; cases h1
    | some b =>
      rw [hv] at h1
      simp only [Option.getD_some] at h1
      subst h1
      exact List.any_eq_true.2 ⟨_, val_mem hv, by simp⟩
theorem RT.holders (h : RT r t) (hg : ∀ x ∈ t.hs, (names x.ns).Nodup) (s : Nm) : holdsR r.hs s = (holdersP t s).1 ∧ aloneR r.hs s = (holdersP t s).2 := by
  have hg' : ∀ x ∈ r.hs, (names x.ns).Nodup := fun x hx => hg x (h.perm.subset hx)
  constructor
  · rw [holdsR_eq hg']
    unfold holdersP
    refine (sortZ_eq ?_ ((h.perm.filter _).map _).symm.symm).symm
    exact ByNo.asc (List.Pairwise.sublist List.filter_sublist h.by_)
  · rw [aloneR_eq hg']
    unfold holdersP
    rw [Bool.eq_iff_iff, List.any_eq_true, List.any_eq_true]
    exact ⟨fun ⟨x, hx, h1⟩ => ⟨x, h.perm.subset hx, h1⟩, fun ⟨x, hx, h1⟩ => ⟨x, h.perm.symm.subset hx, h1⟩⟩
/-- The reference looks at the waiting: between two rounds. -/
structure LookR (t : T) (hR : List Cl) (k : Nat) (st : List Cl) (out : List Int) : Prop where
  ex : ∃ h, lookGo h st (t.ws.drop k) out = look t ∧ hR.Perm h
  by_ : ByNo hR
theorem LookR.start {t r : T} (h : RT r t) : LookR t r.hs 0 [] [] := ⟨⟨t.hs, rfl, h.perm⟩, h.by_⟩
theorem blk_nil_app {a b : List Cl} {c : Cl} : blk (a ++ b) c = [] ↔ blk a c = [] ∧ blk b c = [] := by rw [blk_app, List.append_eq_nil_iff]
theorem drop_at {α : Type} {l : List α} {k : Nat} {x : α} (h : l[k]? = some x) : l.drop k = x :: l.drop (k + 1) := by
  obtain ⟨hk, rfl⟩ := List.getElem?_eq_some_iff.1 h
  exact List.drop_eq_getElem_cons hk
theorem LookR.give {t : T} {hR st : List Cl} {k j : Nat} {out : List Int} {x : Cl} (l : LookR t hR k st out) (hx : t.ws[k]? = some x) (h1 : blk hR x = []) (h2 : blk st x = []) (i : InsAt Cl.id hR x.id j) : LookR t (hR.take j ++ x :: hR.drop j) (k + 1) st (out ++ [x.id]) := by
  obtain ⟨⟨h, e, hp⟩, hb⟩ := l
  refine ⟨⟨h ++ [x], ?_, (ins_perm hR x j).trans ((hp.cons x).trans (List.perm_append_comm (l₁ := [x]) (l₂ := h)))⟩, ins_asc (f := Cl.id) hb i⟩
  rw [drop_at hx, lookGo, if_pos (blk_nil_app.2 ⟨(blk_nil_perm hp x).1 h1, h2⟩)] at e
  exact e
theorem LookR.wait {t : T} {hR st : List Cl} {k : Nat} {out : List Int} {x : Cl} (l : LookR t hR k st out) (hx : t.ws[k]? = some x) (h1 : ¬ (blk hR x = [] ∧ blk st x = [])) : LookR t hR (k + 1) (st ++ [x]) out := by
  obtain ⟨⟨h, e, hp⟩, hb⟩ := l
  refine ⟨⟨h, ?_, hp⟩, hb⟩
  rw [drop_at hx, lookGo, if_neg (fun hn => h1 ⟨(blk_nil_perm hp x).2 (blk_nil_app.1 hn).1, (blk_nil_app.1 hn).2⟩)] at e
  exact e
theorem LookR.done {t : T} {hR st : List Cl} {k : Nat} {out : List Int} (l : LookR t hR k st out) (hk : t.ws.length ≤ k) : RT ⟨hR, st⟩ (look t).1 ∧ out = (look t).2 := by
  obtain ⟨⟨h, e, hp⟩, hb⟩ := l
  rw [List.drop_eq_nil_of_le hk, lookGo] at e
  rw [← e]
  exact ⟨⟨hb, hp, rfl⟩, rfl⟩
theorem LookR.len {t : T} {hR st : List Cl} {k : Nat} {out : List Int} (l : LookR t hR k st out) : hR.length + st.length + (t.ws.length - k) = t.hs.length + t.ws.length := by
  obtain ⟨⟨h, e, hp⟩, _⟩ := l
  obtain ⟨g, r', h1, _, _, h4⟩ := lookGo_parts (t.ws.drop k) h st out
  obtain ⟨g2, r2, h5, _, _, h6⟩ := lookGo_parts t.ws t.hs [] []
  unfold look at e
  rw [h1, h5] at e
  injection e with e1 e2
  injection e1 with e3 e4
  have a1 := congrArg List.length e3
  have a2 := congrArg List.length e4
  have a3 := h4.length_eq
  have a4 := h6.length_eq
  have a5 := hp.length_eq
  simp at a1 a2 a3 a4
  omega
end
/-- The parts between full stops. -/
def partsP : Nm → List Nm
  | [] => [[]]
  | c :: r => if c = 46 then [] :: partsP r else (c :: (partsP r).headD []) :: (partsP r).tail
theorem partsP_ne : ∀ (l : Nm), partsP l ≠ []
  | [] => by simp [partsP]
  | c :: r => by unfold partsP; split <;> simp
theorem partsP_snoc : ∀ (l : Nm) (c : UInt8), partsP (l ++ [c]) = if c = 46 then partsP l ++ [[]] else (partsP l).dropLast ++ [(partsP l).getLastD [] ++ [c]]
  | [], c => by
    by_cases h : c = 46
    · subst h; rfl
    · simp [partsP, h]
  | b :: r, c => by
    have ih := partsP_snoc r c
    rw [List.cons_append, partsP, ih]
    conv => rhs; rw [partsP]
    obtain ⟨p, ps, hp⟩ := List.exists_cons_of_ne_nil (partsP_ne r)
    rw [hp]
    by_cases hb : b = 46 <;> by_cases hc : c = 46 <;> simp [hb, hc]
    · cases ps with
      | nil => simp
      | cons q qs => simp
end P43
namespace Go.Proofs.YtojbddcbnnbklaaGreatDoor
open Go.RowKit P43

/-- An owner and its wish's slice. -/
abbrev Om := Cl × (Option Addr × Nat × Nat)
/-- The cells of a claim. -/
def rc (l : Om) : List Value := [.int .i64 l.1.id, .slice l.2.1 l.2.2.1 l.2.2.2]
/-- .. as one struct's cells. -/
def ra (l : Om) : Array Value := #[.int .i64 l.1.id, .slice l.2.1 l.2.2.1 l.2.2.2]
def rcs (ls : List Om) : List Value := ls.flatMap rc
theorem rcs_nil : rcs [] = [] := rfl
theorem rcs_cons (l : Om) (ls : List Om) : rcs (l :: ls) = rc l ++ rcs ls := rfl
theorem rcs_append (a b : List Om) : rcs (a ++ b) = rcs a ++ rcs b := by simp [rcs]
theorem rcs_length (ls : List Om) : (rcs ls).length = ls.length * 2 := by
  induction ls with
  | nil => rfl
  | cons l ls ih => rw [rcs_cons, List.length_append, ih]; simp [rc]; omega
theorem rcs_get : ∀ {ls : List Om} {k : Nat} {l : Om}, ls[k]? = some l → ∀ j, j < 2 → (rcs ls)[k * 2 + j]? = (rc l)[j]?
  | [], k, l, h, j, hj => by simp at h
  | y :: ls, 0, l, h, j, hj => by
    simp only [List.getElem?_cons_zero, Option.some.injEq] at h
    subst h
    rw [rcs_cons, Nat.zero_mul, Nat.zero_add, List.getElem?_append_left (by simpa [rc] using hj)]
  | y :: ls, k + 1, l, h, j, hj => by
    rw [rcs_cons, List.getElem?_append_right (by simp [rc]; omega)]
    have := rcs_get (ls := ls) (k := k) (l := l) (by simpa using h) j hj
    rw [← this]
    congr 1
    simp [rc]
    omega
theorem rc_one (l : Om) : ∀ u ∈ rc l, u.oneCell' = true := by
  intro u hu
  simp [rc] at hu
  rcases hu with rfl | rfl <;> rfl
theorem rcs_one (ls : List Om) : ∀ u ∈ rcs ls, u.oneCell' = true := by
  intro u hu
  obtain ⟨l, _, hu⟩ := List.mem_flatMap.1 hu
  exact rc_one l u hu
/-- A lock as the program holds it. -/
def rv (l : Om) : Value := .agg #[.int .i64 l.1.id, .slice l.2.1 l.2.2.1 l.2.2.2]

/-- The slice '.slice A n c' reads as the locks 'ls'. -/
def OwsAt (w : World) (A : Option Addr) (n : Nat) (ls : List Om) : Prop := CellsAt w A n 2 (rcs ls)
section
variable {w w' : World} {A : Option Addr} {n c : Nat} {ls : List Om} {B : Nat} {e : TypeId} {v : Value}
theorem OwsAt.nil : OwsAt w A 0 [] := ⟨rfl, fun j u h => by simp [rcs_nil] at h⟩
theorem OwsAt.len (h : OwsAt w A n ls) : ls.length = n := by
  have := h.1
  rw [rcs_length] at this
  omega
theorem OwsAt.below (h : OwsAt w A n ls) (hb : Below w.heap.size w w') : OwsAt w' A n ls := CellsAt.below h hb
/-- The k-th claim's cells. -/
theorem OwsAt.at_ (h : OwsAt w A n ls) {k : Nat} (hk : k < n) : ∃ b off l, A = some ⟨b, off, none⟩ ∧ ls[k]? = some l ∧ w.cell? ⟨b, off + k * 2, none⟩ = some (.int .i64 l.1.id) ∧ w.cell? ⟨b, off + k * 2 + 1, none⟩ = some (.slice l.2.1 l.2.2.1 l.2.2.2) := by
  have hl := h.len
  have hk' : k < ls.length := by omega
  have hg : ls[k]? = some ls[k] := List.getElem?_eq_getElem hk'
  have hc := fun j hj => rcs_get hg j hj
  obtain ⟨b, off, rfl, h0⟩ := h.2 (k * 2 + 0) _ (hc 0 (by omega))
  have key : ∀ j u, j < 2 → (rc ls[k])[j]? = some u → w.cell? ⟨b, off + (k * 2 + j), none⟩ = some u := by
    intro j u hj hu
    obtain ⟨b', off', he, h1⟩ := h.2 (k * 2 + j) u (by rw [hc j hj]; exact hu)
    injection he with he
    injection he with he1 he2
    subst he1 he2
    exact h1
  refine ⟨b, off, ls[k], rfl, hg, ?_, ?_⟩
  · have := key 0 _ (by omega) rfl; simpa using this
  · have := key 1 _ (by omega) rfl; rw [Nat.add_assoc]; exact this
/-- The slice value v is nil, or a row of the call's own (in a block from B on), and its elements are the locks 'ls'. -/
def OwnR (w : World) (B : Nat) (e : TypeId) (v : Value) (ls : List Om) : Prop := w.ownsRow B e 2 v ls.length (rcs ls)
theorem OwnR.nil (w : World) (B : Nat) (e : TypeId) : OwnR w B e (.slice none 0 0) [] := World.ownsRow_nil w B e 2
theorem OwnR.alloc (h : OwnR w B e v ls) (o : Obj) : OwnR (w.alloc o) B e v ls := World.ownsRow.alloc h o
theorem OwnR.drewN (h : OwnR w B e v ls) (k : Nat) : OwnR (w.drewN k) B e v ls := h
theorem OwnR.drew (h : OwnR w B e v ls) : OwnR w.drew B e v ls := h
theorem OwnR.below (h : OwnR w B e v ls) (hb : Below w.heap.size w w') : OwnR w' B e v ls :=
  World.ownsRow.kept (row := none) h ⟨hb.os, hb.tape, hb.output, hb.size, fun k hk _ => hb.block k hk⟩ (by cases v.ownBlock <;> simp)
theorem OwnR.kept {row : Option Nat} (h : OwnR w B e v ls) (hg : w.grownBy w' row) (hne : v.ownBlock = none ∨ v.ownBlock ≠ row) : OwnR w' B e v ls := World.ownsRow.kept h hg hne
theorem OwnR.lt (h : OwnR w B e v ls) : ∀ k, v.ownBlock = some k → B ≤ k ∧ k < w.heap.size := World.ownsRow.lt h
theorem OwnR.cells (h : OwnR w B e v ls) : ∃ A c, v = .slice A ls.length c ∧ OwsAt w A ls.length ls ∧ ls.length ≤ maxLen := by
  rcases h.2 with ⟨rfl, h0⟩ | ⟨g, cap, cur, rfl, _, _, h1, h2, _⟩
  · have : ls = [] := List.eq_nil_of_length_eq_zero h0
    subst this
    exact ⟨none, 0, rfl, OwsAt.nil, Nat.zero_le _⟩
  · refine ⟨_, _, rfl, ⟨h.1, fun j u hj => ⟨g, 0, rfl, ?_⟩⟩, Nat.le_trans h1 h2⟩
    have := h.2
    have hc := World.ownsRow.cells h (g := g) rfl j u hj
    rw [Addr.add_lit] at hc
    exact hc
end

/-- The cells of the k-th lock of a slice, as one struct. -/
theorem OwsAt.row {w : World} {b off n : Nat} {ls : List Om} (h : OwsAt w (some ⟨b, off, none⟩) n ls) {k : Nat} {l : Om} (hl : ls[k]? = some l) :
    ∀ j u, (#[.int .i64 l.1.id, .slice l.2.1 l.2.2.1 l.2.2.2] : Array Value)[j]? = some u → w.cell? ((⟨b, off + k * 2, none⟩ : Addr).add j) = some u := by
  intro j u hj
  have hj2 : j < 2 := (Array.getElem?_eq_some_iff.1 hj).1
  have hu : (rcs ls)[k * 2 + j]? = some u := by
    rw [rcs_get hl j hj2]
    simpa [rc] using hj
  obtain ⟨b', off', he, h1⟩ := h.2 _ u hu
  injection he with he
  injection he with he1 he2
  subst he1 he2
  rw [Addr.add_lit]
  show w.cell? ⟨b, off + k * 2 + j, none⟩ = some u
  rw [Nat.add_assoc]
  exact h1
/-- 'append(s, l)', s a row of the call's own, l a lock in a new block. -/
theorem wpList_append_ow {P : Program} {w : World} {ops : Array Oper} {rest : List Oper} {o : Oper} {a : Act} {Q : Exit → Act → World → Prop} (hgd : o.guard = none) (s x : Operand) (t : TypeId)
    (ho : o.op = .call { callee := .builtin .append, args := #[s, x], argTypes := #[t, t] })
    (base : Nat) (e : TypeId) (i : TypeInfo) (z : Value) (bytes : Nat) (ht : P.underlying t = some (.slice e)) (hi : P.info? e = some i) (hz : i.zero = some z)
    (hsize : i.size = 2) (hby : i.bytes = bytes) (hzs : z.cells.size = 2) (hb6 : bytes ≤ 1000)
    (v : Value) (ls : List Om) (hs : a.eval s = v) (hown : OwnR w base e v ls) (l : Om) (b off c : Nat) (hx : a.eval x = .slice (some ⟨b, off, none⟩) 1 c) (hc : OwsAt w (some ⟨b, off, none⟩) 1 [l])
    (hlen : ls.length ≤ 1000000) (hbase : base ≤ w.heap.size)
    (h : ∀ v' w', OwnR w' base e v' (ls ++ [l]) → w.grownBy w' v.ownBlock → (v'.ownBlock = v.ownBlock ∨ v'.ownBlock = some w.heap.size) → v' ≠ .slice none 0 0 → wpList P ops Q rest (a.put o.dst v') w') :
    wpList P ops Q (o :: rest) a w := by
  refine wpList_append_own_at (P := P) w hgd s x t ho base e i z 2 bytes ht hi hz hsize hby hzs (by omega) v ls.length _ hs hown ⟨b, off, none⟩ 1 c (rcs [l]) hx (by rw [rcs_length]; rfl) ?_ (rcs_one _) (by unfold maxLen; omega) (Nat.le_trans (Nat.mul_le_mul (Nat.add_le_add_right hlen 1) hb6) (by decide)) hbase ?_
  · intro j u hj
    obtain ⟨b', off', he, h1⟩ := hc.2 j u hj
    injection he with he
    injection he with he1 he2
    subst he1 he2
    rw [Addr.add_lit]
    exact h1
  · intro v' w' h1 h2 h3 h4
    refine h v' w' ?_ h2 h4 (fun e => by have := (h3.1 e).2; omega)
    unfold OwnR
    rw [List.length_append, rcs_append]
    exact h1
/-- A lock in a new block of its own. -/
theorem OwsAt.lit1 (w : World) (e : TypeId) (l : Om) : OwsAt (w.alloc (.cells #[.int .i64 l.1.id, .slice l.2.1 l.2.2.1 l.2.2.2] e)) (some ⟨w.heap.size, 0, none⟩) 1 [l] := by
  refine ⟨by rw [rcs_length]; rfl, fun j u hj => ⟨_, _, rfl, ?_⟩⟩
  rw [Nat.zero_add, World.cell?_alloc_mark w _ e (0, 0) j]
  simpa [rcs, rc] using hj
theorem ra_all (l : Om) : (ra l).all (·.oneCell') = true := by
  rw [Array.all_eq_true_iff_forall_mem]
  intro v hv
  exact rc_one l v (by simpa [ra, rc] using hv)
/-- The wishes of the owners lie where their slices say. -/
def WishAt (w : World) (x : Om) : Prop := NlsAt w x.2.1 x.2.2.1 x.1.ns ∧ x.2.2.1 ≤ 1000
theorem WishAt.below {w w' : World} {x : Om} (h : WishAt w x) (hb : Below w.heap.size w w') : WishAt w' x := ⟨h.1.below hb, h.2⟩
end Go.Proofs.YtojbddcbnnbklaaGreatDoor
namespace Go.Proofs.YtojbddcbnnbklaaGreatDoor
open Go.RowKit P43
attribute [local go_sem] ByteArray.mk_append_mk ByteArray.extract_mk mk_index

def clashN (p q : P43.Nm × Bool) : Bool := decide (p.1 = q.1) && (p.2 || q.2)
def confL (a b : List (P43.Nm × Bool)) : Bool := a.any fun p => b.any fun q => clashN p q
theorem confL_conf (i j : Int) (a b : List (P43.Nm × Bool)) : confL a b = conf ⟨i, a⟩ ⟨j, b⟩ := rfl
theorem any_false {α : Type} {f : α → Bool} {xs : List α} {n : Nat} (hn : xs.length = n) (h : ∀ (j : Nat) (a : α), j < n → xs[j]? = some a → f a = false) : xs.any f = false := by
  rw [List.any_eq_false]
  intro a ha
  obtain ⟨j, hj⟩ := List.mem_iff_getElem?.1 ha
  simp [h j a (by have := (List.getElem?_eq_some_iff.1 hj).1; omega) hj]
theorem any_true {α : Type} {f : α → Bool} {xs : List α} {j : Nat} {a : α} (hj : xs[j]? = some a) (h : f a = true) : xs.any f = true := List.any_eq_true.2 ⟨a, List.mem_of_getElem? hj, h⟩
theorem any_step {α : Type} {f : α → Bool} {xs : List α} {k : Nat} {a : α} (hall : ∀ (j : Nat) (b : α), j < k → xs[j]? = some b → f b = false) (hk : xs[k]? = some a) (ha : f a = false) : ∀ (j : Nat) (b : α), j < k + 1 → xs[j]? = some b → f b = false := by
  intro j b hj hb
  by_cases e : j = k
  · subst e
    rw [hk] at hb
    rw [← Option.some.inj hb]
    exact ha
  · exact hall j b (by omega) hb
/-- The place of an owner, or -1. -/
def rIdx (o : Int) (ls : List Om) : Int := match ls.findIdx? (fun x => decide (x.1.id = o)) with
  | some k => (k : Int)
  | none => -1
set_option maxRecDepth 100000 in
set_option maxHeartbeats 4000000 in
theorem refIndex (A : Option Addr) (n c : Nat) (o : Int) (ls : List Om) (w : World) (h : OwsAt w A n ls) (hn : n ≤ 9223372036854775807) :
    Calls Tryz.prog 27 #[.slice A n c, .int .i64 o] w fun e w' => e = .returned (.int .i64 (rIdx o ls)) ∧ Below w.heap.size w w' := by
  have H := Lib.hid h
  have HN := Lib.hid h.len
  clear h
  go_enter Tryz.func27, Tryz.ntmps27
  go_wp2
  go_loopw [5] (fun i wr => ∃ k : Nat, k ≤ n ∧ i = .int .i64 k ∧ Hid (∀ (j : Nat) (p : Om), j < k → ls[j]? = some p → ¬ p.1.id = o) ∧ Below w.heap.size w wr) (fun i _ => n - (intOf i).toNat)
  case atStart => exact ⟨0, Nat.zero_le _, rfl, fun j a hj => absurd hj (by omega), Below.refl _ _⟩
  case round =>
    obtain ⟨k, hk, rfl, hall, hb⟩ := hrel
    have HB := Lib.hid hb
    clear hb
    by_cases hlt : k < n
    · obtain ⟨b, off, x, rfl, hx, x0, x1⟩ := (OwsAt.below H.out HB.out).at_ hlt
      have HX := Lib.hid hx
      have hk1 : (k : Int) < (n : Int) := by omega
      have hk2 : (0 : Int) ≤ (k : Int) := by omega
      clear hx
      by_cases he : x.1.id = o
      · have HI := Lib.hid (show rIdx o ls = (k : Int) from by
          unfold rIdx
          have hkl : k < ls.length := by rw [HN.out]; exact hlt
          have e : ls.findIdx? (fun x => decide (x.1.id = o)) = some k := by
            rw [List.findIdx?_eq_some_iff_getElem]
            refine ⟨hkl, ?_, fun j hj => ?_⟩
            · have := HX.out
              rw [List.getElem?_eq_getElem hkl] at this
              rw [Option.some.inj this]
              simpa using he
            · simpa using hall.out j _ hj (List.getElem?_eq_getElem (by omega))
          rw [e])
        have b0 : (x.1.id == o) = true := by simpa using he
        go_wp2
        go_ret
        exact ⟨by rw [HI.out]; rfl, HB.out⟩
      · have b0 : (x.1.id == o) = false := by simpa using he
        have HE := Lib.hid he
        clear he
        go_wp2
        exact ⟨⟨k + 1, hlt, by simp, fun j p hj hp => by
          by_cases e : j = k
          · subst e
            have := HX.out
            rw [hp] at this
            cases this
            exact HE.out
          · exact hall.out j p (by omega) hp, HB.out⟩, by dsimp only [intOf]; omega⟩
    · have hkn : k = n := by omega
      have hk1 : ¬ (k : Int) < (n : Int) := by omega
      have HI := Lib.hid (show rIdx o ls = -1 from by
        unfold rIdx
        have e : ls.findIdx? (fun x => decide (x.1.id = o)) = none := by
          rw [List.findIdx?_eq_none_iff]
          intro x hx
          obtain ⟨j, hj⟩ := List.mem_iff_getElem?.1 hx
          have hjl := (List.getElem?_eq_some_iff.1 hj).1
          simpa using hall.out j x (by rw [HN.out] at hjl; omega) hj
        rw [e])
      go_wp2
      go_ret
      exact ⟨by rw [HI.out]; rfl, HB.out⟩
set_option maxRecDepth 100000 in
set_option maxHeartbeats 4000000 in
theorem refConf (A1 A2 : Option Addr) (n1 c1 n2 c2 : Nat) (l1 l2 : List (P43.Nm × Bool)) (w : World) (h1 : NlsAt w A1 n1 l1) (h2 : NlsAt w A2 n2 l2) (hn1 : n1 ≤ 9223372036854775807) (hn2 : n2 ≤ 9223372036854775807) :
    Calls Tryz.prog 44 #[.slice A1 n1 c1, .slice A2 n2 c2] w fun e w' => e = .returned (.bool (confL l1 l2)) ∧ Below w.heap.size w w' := by
  have H1 := Lib.hid h1
  have H2 := Lib.hid h2
  clear h1 h2
  go_enter Tryz.func44, Tryz.ntmps44
  go_wp2
  go_loopw [5] (fun i wr => ∃ k : Nat, k ≤ n1 ∧ i = .int .i64 k ∧ Hid (∀ (j : Nat) (p : P43.Nm × Bool), j < k → l1[j]? = some p → (l2.any fun q => clashN p q) = false) ∧ Below w.heap.size w wr) (fun i _ => n1 - (intOf i).toNat)
  case atStart => exact ⟨0, Nat.zero_le _, rfl, fun j a hj => absurd hj (by omega), Below.refl _ _⟩
  case round =>
    obtain ⟨k, hk, rfl, hall, hb⟩ := hrel
    have HB := Lib.hid hb
    have hsz := hb.size
    clear hb
    by_cases hlt : k < n1
    · obtain ⟨b, off, p, rfl, hp, x0, x1⟩ := (NlsAt.below H1.out HB.out).at_ hlt
      have HP := Lib.hid hp
      have HR := Lib.hid (NlsAt.below H1.out HB.out)
      have hk1 : (k : Int) < (n1 : Int) := by omega
      have hk2 : (0 : Int) ≤ (k : Int) := by omega
      clear hp x0 x1
      obtain ⟨wo, hwo⟩ : ∃ wo, wr = wo := ⟨_, rfl⟩
      rw [hwo] at HB hsz HR ⊢
      clear hwo wr
      go_wp2
      go_loopw [6] (fun i wr => ∃ m : Nat, m ≤ n2 ∧ i = .int .i64 m ∧ Hid (∀ (j : Nat) (q : P43.Nm × Bool), j < m → l2[j]? = some q → clashN p q = false) ∧ Below wo.heap.size wo wr) (fun i _ => n2 - (intOf i).toNat)
      case atStart => exact ⟨0, Nat.zero_le _, rfl, fun j a hj => absurd hj (by omega), Below.refl _ _⟩
      case round =>
        obtain ⟨m, hm, rfl, hal2, hb3⟩ := hrel
        have HB3 := Lib.hid hb3
        have hsz3 := hb3.size
        clear hb3
        by_cases hlt2 : m < n2
        · obtain ⟨b2, off2, q, rfl, hq, y0, y1⟩ := ((NlsAt.below H2.out HB.out).below HB3.out).at_ hlt2
          obtain ⟨b', off', p', hA', hp', x0, x1⟩ := (HR.out.below HB3.out).at_ hlt
          cases hA'
          obtain rfl : p = p' := by have := HP.out; rw [hp'] at this; exact (Option.some.inj this).symm
          have HQ := Lib.hid hq
          have hm1 : (m : Int) < (n2 : Int) := by omega
          have hm2 : (0 : Int) ≤ (m : Int) := by omega
          clear hq hp'
          obtain ⟨pn, px⟩ := p
          obtain ⟨qn, qx⟩ := q
          simp only at x0 x1 y0 y1
          go_upto_region 7 with (fail)
          by_cases he : pn = qn
          · subst he
            have HCL := Lib.hid (show clashN (pn, px) (pn, qx) = (px || qx) from by simp [clashN])
            cases px <;> cases qx
            all_goals
              go_quiet (fail)
              have HB4 := Lib.hid (HB3.out.trans ((below_drewN (Below.refl wr.heap.size wr) nq).mono HB3.out.size))
              generalize wr.drewN nq = w6 at HB4 ⊢
              clear x0 x1 y0 y1
            · go_wp2
              go_roundw
              case rel => exact ⟨m + 1, hlt2, by simp, any_step hal2 HQ.out (by rw [HCL.out]; rfl), HB4.out⟩
              case measure => dsimp only [intOf]; omega
            all_goals
              have HO := Lib.hid (show confL l1 l2 = true from any_true HP.out (any_true HQ.out (by rw [HCL.out]; rfl)))
              go_wp2
              go_ret
              exact ⟨retBool HO.out.symm, HB.out.trans (HB4.out.mono hsz)⟩
          · have HCL := Lib.hid (show clashN (pn, px) (qn, qx) = false from by simp [clashN, he])
            have hd : decide (pn = qn) = false := decide_eq_false he
            go_quiet (fail)
            have HB4 := Lib.hid (HB3.out.trans ((below_drewN (Below.refl wr.heap.size wr) nq).mono HB3.out.size))
            generalize wr.drewN nq = w6 at HB4 ⊢
            clear x0 x1 y0 y1
            go_wp2
            go_roundw
            case rel => exact ⟨m + 1, hlt2, by simp, any_step hal2 HQ.out HCL.out, HB4.out⟩
            case measure => dsimp only [intOf]; omega
        · have hmn : m = n2 := by omega
          have hm1 : ¬ (m : Int) < (n2 : Int) := by omega
          go_wp2
          refine ⟨⟨k + 1, hlt, by simp, any_step hall HP.out (any_false H2.out.len (fun j q hj hq => hal2 j q (by omega) hq)), HB.out.trans (HB3.out.mono hsz)⟩, by dsimp only [intOf]; omega⟩
    · have hkn : k = n1 := by omega
      subst hkn
      have hk1 : ¬ (k : Int) < (k : Int) := by omega
      have HO := Lib.hid (show confL l1 l2 = false from any_false H1.out.len hall)
      go_wp2
      go_ret
      exact ⟨retBool HO.out.symm, HB.out⟩
end Go.Proofs.YtojbddcbnnbklaaGreatDoor
namespace Go.Proofs.YtojbddcbnnbklaaGreatDoor
open Go.RowKit P43
attribute [local go_sem] ByteArray.mk_append_mk ByteArray.extract_mk mk_index

/-- The numbers of owners. -/
def idsR (l : List Om) : List Int := l.map (·.1.id)
theorem idsR_take {l : List Om} {k : Nat} {x : Om} (h : l[k]? = some x) : idsR (l.take (k + 1)) = idsR (l.take k) ++ [x.1.id] := by
  unfold idsR
  rw [List.take_add_one, h]
  simp
/-- An empty row of numbers that is not nil. -/
theorem OwnI.empty {w : World} {B g : Nat} (hB : B ≤ g) (h : Blk w g 3 #[]) : OwnI w B (.slice (some ⟨g, 0, none⟩) 0 0) [] :=
  ⟨rfl, .inr ⟨g, 0, #[], rfl, hB, h, Nat.le_refl _, by decide, rfl, rfl⟩⟩
set_option maxRecDepth 100000 in
set_option maxHeartbeats 4000000 in
theorem refWaiting (Ah Aw : Option Addr) (nh ch nw cw : Nat) (ws : List Om) (w : World) (h : OwsAt w Aw nw ws) (hn : nw ≤ 100000) :
    Calls Tryz.prog 13 #[.agg #[.slice Ah nh ch, .slice Aw nw cw]] w fun e w' => ∃ v, e = .returned v ∧ OwnI w' w.heap.size v (idsR ws) ∧ Below w.heap.size w w' := by
  have H := Lib.hid h
  have HN := Lib.hid h.len
  obtain ⟨i1, hi1', hy0, hy1, hy2⟩ := info_parts infoI
  have HI1 := Lib.hid hi1'
  have HY0 := Lib.hid hy0
  have HY1 := Lib.hid hy1
  have HY2 := Lib.hid hy2
  clear h hi1' hy0 hy1 hy2
  go_enter Tryz.func13, Tryz.ntmps13
  go_wp2
  obtain ⟨w2, q1, q2, e1, e2, e3, hb2, hq1, hq2⟩ : ∃ (w2 : World) (q1 q2 : Nat), (w.alloc (.cells #[.slice Ah nh ch, .slice Aw nw cw] 29)).alloc (.cells #[] 3) = w2 ∧ w.heap.size = q1 ∧ w.heap.size + 1 = q2 ∧ Below w.heap.size w w2 ∧ Blk w2 q1 29 #[.slice Ah nh ch, .slice Aw nw cw] ∧ Blk w2 q2 3 #[] :=
    ⟨_, _, _, rfl, rfl, rfl, below_alloc (below_alloc (Below.refl _ _) _) _, (Blk.new w _ _).alloc _, by
      have := Blk.new (w.alloc (.cells #[.slice Ah nh ch, .slice Aw nw cw] 29)) 3 #[]
      rwa [World.size_alloc] at this⟩
  have hqq : w.heap.size ≤ q2 := by omega
  rw [e1, e3, e2]
  have HB2 := Lib.hid hb2
  have HQ1 := Lib.hid hq1
  have HO2 := Lib.hid (OwnI.empty (B := w.heap.size) hqq hq2)
  clear e1 e2 e3 hb2 hq1 hq2
  go_loopw [3, 4] (fun ov iv wr => ∃ k : Nat, k ≤ nw ∧ iv = .int .i64 k ∧ OwnI wr w.heap.size ov (idsR (ws.take k)) ∧ Blk wr q1 29 #[.slice Ah nh ch, .slice Aw nw cw] ∧ Below w.heap.size w wr) (fun _ iv _ => nw - (intOf iv).toNat)
  case atStart => exact ⟨0, Nat.zero_le _, rfl, HO2.out, HQ1.out, HB2.out⟩
  case round =>
    obtain ⟨k, hk, rfl, ho, hq, hb⟩ := hrel
    have HO := Lib.hid ho
    have HQ := Lib.hid hq
    have HB := Lib.hid hb
    have hsz := hb.size
    have z1 := hq.cell 1
    simp at z1
    clear ho hq hb
    by_cases hlt : k < nw
    · obtain ⟨b, off, x, rfl, hx, x0, x1⟩ := (OwsAt.below H.out HB.out).at_ hlt
      have HX := Lib.hid (idsR_take hx)
      have HLK := Lib.hid (show (idsR (ws.take k)).length ≤ 1000000 from by
        have := List.length_take_le k ws
        simp only [idsR, List.length_map]
        omega)
      have hk1 : (k : Int) < (nw : Int) := by omega
      have hk2 : (0 : Int) ≤ (k : Int) := by omega
      clear hx
      go_wp2_with (at_builtin; refine wpList_append_int rfl (.tmp 13) (.tmp 20) _ rfl w.heap.size i1 _ Tryz.underlying33 HI1.out HY0.out HY1.out HY2.out rfl _ (idsR (ws.take k)) rfl (HO.out.alloc _) x.1.id wr.heap.size 1 rfl (World.cell?_alloc_mark wr _ 3 (0, 0) 0) HLK.out (by simp; omega) ?_; intro v3 w3 hown3 hg3 hat3; have HO3 := Lib.hid hown3; have HG3 := Lib.hid hg3; clear hown3 hg3 hat3)
      refine ⟨⟨k + 1, hlt, by simp, by rw [HX.out]; exact HO3.out, ?_, ?_⟩, by dsimp only [intOf]; omega⟩
      · refine (HQ.out.alloc _).grown HG3.out (fun e => ?_)
        obtain ⟨cs, hb⟩ := HO.out.own q1 (by first | exact e | exact e.symm)
        exact Blk.ne HQ.out hb (by decide) rfl
      · exact (HB.out.alloc hsz _).grown HG3.out (by simp; omega) (fun k e => (HO.out.lt k e).1)
    · have hkn : k = nw := by omega
      have hk1 : ¬ (k : Int) < (nw : Int) := by omega
      go_wp2
      go_ret
      have h := HO.out
      rw [hkn, ← HN.out, List.take_length] at h
      exact ⟨_, rfl, h, HB.out⟩
end Go.Proofs.YtojbddcbnnbklaaGreatDoor
namespace Go.Proofs.YtojbddcbnnbklaaGreatDoor
open Go.RowKit P43
attribute [local go_sem] ByteArray.mk_append_mk ByteArray.extract_mk mk_index

abbrev tW : TypeId := 68
theorem infoW : (Tryz.prog.info? tW).map (fun i => (i.zero, i.size, i.bytes)) = some (some (.agg #[.int .i64 0, .slice none 0 0]), 2, 32) := by kernel_rfl
theorem OwnR.empty {w : World} {B g : Nat} (hB : B ≤ g) (h : Blk w g tW #[]) : OwnR w B tW (.slice (some ⟨g, 0, none⟩) 0 0) [] :=
  ⟨rfl, .inr ⟨g, 0, #[], rfl, hB, h, Nat.le_refl _, by decide, rfl, rfl⟩⟩
def butR (o : Int) (l : List Om) : List Om := l.filter fun x => decide (x.1.id ≠ o)
theorem butR_take {l : List Om} {o : Int} {k : Nat} {x : Om} (h : l[k]? = some x) : butR o (l.take (k + 1)) = if x.1.id = o then butR o (l.take k) else butR o (l.take k) ++ [x] := by
  unfold butR
  rw [List.take_add_one, h, List.filter_append]
  by_cases e : x.1.id = o <;> simp [e]
set_option maxRecDepth 100000 in
set_option maxHeartbeats 4000000 in
theorem refWithout (A : Option Addr) (n c : Nat) (o : Int) (ls : List Om) (w : World) (h : OwsAt w A n ls) (hn : n ≤ 100000) :
    Calls Tryz.prog 31 #[.slice A n c, .int .i64 o] w fun e w' => ∃ v, e = .returned v ∧ OwnR w' w.heap.size tW v (butR o ls) ∧ Below w.heap.size w w' := by
  have H := Lib.hid h
  have HN := Lib.hid h.len
  have hlenW : (Tryz.prog.info? tW).map (·.size) = some 2 := by kernel_rfl
  obtain ⟨i1, hi1', hy0, hy1, hy2⟩ := info_parts infoW
  have HI1 := Lib.hid hi1'
  have HY0 := Lib.hid hy0
  have HY1 := Lib.hid hy1
  have HY2 := Lib.hid hy2
  clear h hi1' hy0 hy1 hy2
  go_enter Tryz.func31, Tryz.ntmps31
  go_wp2
  obtain ⟨w2, q2, e1, e2, hb2, hq2⟩ := boxes1 w tW #[]
  rw [e1, e2]
  have HB2 := Lib.hid hb2
  have HO2 := Lib.hid (OwnR.empty (B := w.heap.size) (by omega) hq2)
  clear e1 e2 hb2 hq2
  go_loopw [5, 6] (fun ov iv wr => ∃ k : Nat, k ≤ n ∧ iv = .int .i64 k ∧ OwnR wr w.heap.size tW ov (butR o (ls.take k)) ∧ Below w.heap.size w wr) (fun _ iv _ => n - (intOf iv).toNat)
  case atStart => exact ⟨0, Nat.zero_le _, rfl, HO2.out, HB2.out⟩
  case round =>
    obtain ⟨k, hk, rfl, ho, hb⟩ := hrel
    have HO := Lib.hid ho
    have HB := Lib.hid hb
    have hsz := hb.size
    clear ho hb
    by_cases hlt : k < n
    · have hs := OwsAt.below H.out HB.out
      obtain ⟨b, off, x, rfl, hx, x0, x1⟩ := hs.at_ hlt
      have HX := Lib.hid (butR_take (o := o) hx)
      have HR := Lib.hid (hs.row hx)
      have HLK := Lib.hid (show (butR o (ls.take k)).length ≤ 1000000 from by
        have h1 := List.length_take_le k ls
        have h2 := List.length_filter_le (fun x : Om => decide (x.1.id ≠ o)) (ls.take k)
        unfold butR
        omega)
      have hk1 : (k : Int) < (n : Int) := by omega
      have hk2 : (0 : Int) ≤ (k : Int) := by omega
      clear hx hs
      by_cases he : x.1.id = o
      · have b0 : (x.1.id != o) = false := by simpa using he
        have HE := Lib.hid he
        clear he
        go_wp2
        exact ⟨⟨k + 1, hlt, by simp, by rw [HX.out, if_pos HE.out]; exact HO.out, HB.out⟩, by dsimp only [intOf]; omega⟩
      · have b0 : (x.1.id != o) = true := by simpa using he
        have HE := Lib.hid he
        clear he
        go_wp2_with (first | (refine wpList_load_cells rfl tW (.tmp 24) rfl ⟨b, off + k * 2, none⟩ rfl _ _ HR.out Tryz.underlying68 rfl hlenW ?_) | (at_builtin; refine wpList_append_ow rfl (.tmp 21) (.tmp 26) _ rfl w.heap.size tW i1 _ 32 Tryz.underlying27 HI1.out HY0.out HY1.out HY2.out rfl (by omega) _ (butR o (ls.take k)) rfl (HO.out.alloc _) x wr.heap.size 0 1 rfl (OwsAt.lit1 wr tW x) HLK.out (by simp; omega) ?_; intro v3 w3 hown3 hg3 hat3 hnn; have HO3 := Lib.hid hown3; have HG3 := Lib.hid hg3; clear hown3 hg3 hat3 hnn))
        exact ⟨⟨k + 1, hlt, by simp, by rw [HX.out, if_neg HE.out]; exact HO3.out, (HB.out.alloc hsz _).grown HG3.out (by simp; omega) (fun k e => (HO.out.lt k e).1)⟩, by dsimp only [intOf]; omega⟩
    · have hkn : k = n := by omega
      have hk1 : ¬ (k : Int) < (n : Int) := by omega
      go_wp2
      go_ret
      have h := HO.out
      rw [hkn, ← HN.out, List.take_length] at h
      exact ⟨_, rfl, h, HB.out⟩
end Go.Proofs.YtojbddcbnnbklaaGreatDoor
namespace Go.Proofs.YtojbddcbnnbklaaGreatDoor
open Go.RowKit P43
attribute [local go_sem] ByteArray.mk_append_mk ByteArray.extract_mk mk_index

theorem rIdx_cases (o : Int) (ls : List Om) : (rIdx o ls = -1 ∧ ls.find? (fun x => decide (x.1.id = o)) = none) ∨ ∃ (k : Nat) (x : Om), rIdx o ls = k ∧ ls[k]? = some x ∧ x.1.id = o ∧ ls.find? (fun x => decide (x.1.id = o)) = some x := by
  unfold rIdx
  cases h : ls.findIdx? (fun x => decide (x.1.id = o)) with
  | none =>
    refine .inl ⟨rfl, ?_⟩
    rw [List.findIdx?_eq_none_iff] at h
    rw [List.find?_eq_none]
    intro x hx
    simpa using h x hx
  | some k =>
    rw [List.findIdx?_eq_some_iff_getElem] at h
    obtain ⟨hk, h1, h2⟩ := h
    refine .inr ⟨k, ls[k], rfl, List.getElem?_eq_getElem hk, by simpa using h1, ?_⟩
    rw [List.find?_eq_some_iff_getElem]
    exact ⟨h1, k, hk, rfl, fun j hj => by simpa using h2 j hj⟩
/-- The wish of an owner; none: nothing. -/
def heldR (o : Int) (ls : List Om) : List (Nm × Bool) := ((ls.find? fun x => decide (x.1.id = o)).map (·.1.ns)).getD []
set_option maxRecDepth 100000 in
set_option maxHeartbeats 4000000 in
theorem refHeld (Ah Aw : Option Addr) (nh ch nw cw : Nat) (o : Int) (hs : List Om) (w : World) (h : OwsAt w Ah nh hs) (hW : ∀ x ∈ hs, WishAt w x) (hn : nh ≤ 100000) :
    Calls Tryz.prog 18 #[.agg #[.slice Ah nh ch, .slice Aw nw cw], .int .i64 o] w fun e w' => ∃ v, e = .returned v ∧ (∃ A n c, v = .slice A n c ∧ NlsAt w' A n (heldR o hs) ∧ n ≤ 1000) ∧ Below w.heap.size w w' := by
  have H := Lib.hid h
  have HW := Lib.hid hW
  clear h hW
  go_enter Tryz.func18, Tryz.ntmps18
  go_wp2_with fail
  obtain ⟨w2, q1, e1, e2, hb2, hq1⟩ := boxes1 w 29 #[.slice Ah nh ch, .slice Aw nw cw]
  rw [e1, e2]
  have HB2 := Lib.hid hb2
  have HQ1 := Lib.hid hq1
  clear e1 e2 hb2 hq1
  refine (refIndex Ah nh ch o hs w2 (OwsAt.below H.out HB2.out) (by omega)).mono ?_
  rintro e w3 ⟨rfl, hb3⟩
  have HB3 := Lib.hid (HB2.out.trans (hb3.mono HB2.out.size))
  have z0 := (HQ1.out.below hb3).cell 0
  simp at z0
  clear hb3
  rcases rIdx_cases o hs with ⟨hi, hf⟩ | ⟨k, x, hi, hx, hid, hf⟩
  · rw [hi]
    go_wp2
    go_ret
    refine ⟨_, rfl, ⟨none, 0, 0, rfl, ?_, Nat.zero_le _⟩, HB3.out⟩
    unfold heldR
    rw [hf]
    exact NlsAt.nil
  · rw [hi]
    have hkn : k < nh := by
      have h1 := (List.getElem?_eq_some_iff.1 hx).1
      have h2 := OwsAt.len H.out
      omega
    obtain ⟨b, off, x', rfl, hx', x0, x1⟩ := (OwsAt.below H.out HB3.out).at_ hkn
    obtain rfl : x = x' := by rw [hx] at hx'; exact Option.some.inj hx'
    have hk1 : ¬ (k : Int) < 0 := by omega
    have hk2 : (0 : Int) ≤ (k : Int) := by omega
    have hk3 : (k : Int) < (nh : Int) := by omega
    have HWX := Lib.hid ((HW.out x (List.mem_of_getElem? hx)).below HB3.out)
    have HF := Lib.hid hf
    clear hx hx' hf hi
    go_wp2
    go_ret
    refine ⟨_, rfl, ⟨_, _, _, rfl, ?_, HWX.out.2⟩, HB3.out⟩
    unfold heldR
    rw [HF.out]
    exact HWX.out.1
end Go.Proofs.YtojbddcbnnbklaaGreatDoor
