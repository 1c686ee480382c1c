/- Retained locks keep others away until they are freed: plain Lean, no program in sight. A facility that is lost and rebuilt from what its systems export; a facility beside a manager: plain Lean, no program in sight. A facility after acts: epochs in range, and what is lost; plain Lean. -/
import Derived.Test.YtjklhiifjnmedaaGreatCmA
namespace P52
open P16 P46
/-- Every unit's epoch has been reached; what is lost is empty. -/
structure Us (F : Fs) : Prop where
  h : ∀ l ∈ F.s.h, sysOf l.unit ≠ 0 ∧ epOf l.unit ≤ F.ep (sysOf l.unit).toNat
  q : ∀ l ∈ F.s.q, sysOf l.unit ≠ 0 ∧ epOf l.unit ≤ F.ep (sysOf l.unit).toNat
theorem cancel_in (s : St) (u : Int) : (∀ l ∈ (P46.cancel s u).1.q, l ∈ s.q ∧ l.unit ≠ u) ∧ (∀ l ∈ (P46.cancel s u).1.h, l ∈ s.h ∨ (l ∈ s.q ∧ l.unit ≠ u)) ∧ ∀ l ∈ s.h, l ∈ (P46.cancel s u).1.h := by
  obtain ⟨h1, h2, h3⟩ := grantGo_sub (drop s.q u) s.h [] []
  refine ⟨fun l hl => ?_, fun l hl => ?_, fun l hl => h3 l hl⟩
  · have := h1 l hl
    rw [List.nil_append] at this
    have := List.mem_filter.1 this
    exact ⟨this.1, by simpa using this.2⟩
  · rcases h2 l hl with h | h
    · exact .inl h
    · have := List.mem_filter.1 h
      exact .inr ⟨this.1, by simpa using this.2⟩
theorem release_in (s : St) (u : Int) : (∀ l ∈ (P46.release s u).1.q, l ∈ s.q ∧ l.unit ≠ u) ∧ (∀ l ∈ (P46.release s u).1.h, l.unit ≠ u ∧ (l ∈ s.h ∨ l ∈ s.q)) := by
  obtain ⟨h1, h2, _⟩ := grantGo_sub (drop s.q u) (drop s.h u) [] []
  refine ⟨fun l hl => ?_, fun l hl => ?_⟩
  · have := h1 l hl
    rw [List.nil_append] at this
    have := List.mem_filter.1 this
    exact ⟨this.1, by simpa using this.2⟩
  · rcases h2 l hl with h | h
    · have := List.mem_filter.1 h
      exact ⟨by simpa using this.2, .inl this.1⟩
    · have := List.mem_filter.1 h
      exact ⟨by simpa using this.2, .inr this.1⟩
/-- What is granted is laid behind what was held. -/
theorem grantGo_app : ∀ (rest h pre : List Lock) (out : List Int), ∃ g, (grantGo h pre rest out).1.h = h ++ g ∧ ∀ l ∈ g, l ∈ rest
  | [], h, pre, out => ⟨[], by simp [grantGo], by simp⟩
  | l :: rest, h, pre, out => by
    rw [grantGo]
    split
    · obtain ⟨g, h1, h2⟩ := grantGo_app rest (h ++ [l]) pre (out ++ [l.unit])
      refine ⟨l :: g, by rw [h1]; simp, fun y hy => ?_⟩
      rcases List.mem_cons.1 hy with rfl | hy
      · simp
      · simp [h2 y hy]
    · obtain ⟨g, h1, h2⟩ := grantGo_app rest h (pre ++ [l]) out
      exact ⟨g, h1, fun y hy => by simp [h2 y hy]⟩
theorem cancel_app (s : St) (u : Int) : ∃ g, (P46.cancel s u).1.h = s.h ++ g ∧ ∀ l ∈ g, l ∈ s.q := by
  obtain ⟨g, h1, h2⟩ := grantGo_app (drop s.q u) s.h [] []
  exact ⟨g, h1, fun l hl => (List.mem_filter.1 (h2 l hl)).1⟩
theorem ask_in (s : St) (l : Lock) : (∀ y ∈ (P46.ask s l).1.h, y ∈ s.h ∨ y = l) ∧ ∀ y ∈ (P46.ask s l).1.q, y ∈ s.q ∨ y = l := by
  unfold P46.ask
  split
  · exact ⟨fun y hy => by simpa using hy, fun y hy => .inl hy⟩
  · split
    · exact ⟨fun y hy => .inl hy, fun y hy => .inl hy⟩
    · exact ⟨fun y hy => .inl hy, fun y hy => by simpa using hy⟩
theorem request_in (s : St) (l : Lock) : (∀ y ∈ (P46.request s l).1.h, y ∈ s.h ∨ y ∈ s.q ∨ y = l) ∧ ∀ y ∈ (P46.request s l).1.q, y ∈ s.q ∨ y = l := by
  have base : (∀ y ∈ s.h, y ∈ s.h ∨ y ∈ s.q ∨ y = l) ∧ ∀ y ∈ s.q, y ∈ s.q ∨ y = l := ⟨fun y hy => .inl hy, fun y hy => .inl hy⟩
  unfold P46.request
  split
  · exact base
  · split
    · exact base
    · split
      · split
        · exact base
        · obtain ⟨h1, h2⟩ := ask_in (P46.cancel s l.unit).1 l
          obtain ⟨c1, c2, _⟩ := cancel_in s l.unit
          refine ⟨fun y hy => ?_, fun y hy => ?_⟩
          · rcases h1 y hy with h | h
            · rcases c2 y h with h | h
              · exact .inl h
              · exact .inr (.inl h.1)
            · exact .inr (.inr h)
          · rcases h2 y hy with h | h
            · exact .inl (c1 y h).1
            · exact .inr h
      · obtain ⟨h1, h2⟩ := ask_in s l
        refine ⟨fun y hy => ?_, h2⟩
        rcases h1 y hy with h | h
        · exact .inl h
        · exact .inr (.inr h)
/-- A part of the locks. -/
def Part (s t : St) : Prop := (∀ l ∈ t.h, l ∈ s.h ∨ l ∈ s.q) ∧ ∀ l ∈ t.q, l ∈ s.q
theorem Part.refl (s : St) : Part s s := ⟨fun _ h => .inl h, fun _ h => h⟩
theorem Part.trans {a b c : St} (h : Part a b) (k : Part b c) : Part a c :=
  ⟨fun l hl => (k.1 l hl).elim (fun h' => h.1 l h') (fun h' => .inr (h.2 l h')), fun l hl => h.2 l (k.2 l hl)⟩
theorem part_cancel (s : St) (u : Int) : Part s (P46.cancel s u).1 :=
  ⟨fun l hl => ((cancel_in s u).2.1 l hl).imp id (fun h => h.1), fun l hl => ((cancel_in s u).1 l hl).1⟩
theorem part_release (s : St) (u : Int) : Part s (P46.release s u).1 :=
  ⟨fun l hl => ((release_in s u).2 l hl).2, fun l hl => ((release_in s u).1 l hl).1⟩
theorem part_fails (F : Fs) (k : Int) : ∀ (us : List Int) (s : St), Part s (us.foldl (failStep F k) s)
  | [], s => Part.refl s
  | u :: us, s => by
    refine Part.trans ?_ (part_fails F k us _)
    unfold failStep
    split
    · exact part_cancel s u
    · exact Part.refl s
theorem part_frees : ∀ (us : List Int) (r : St × List Int), Part r.1 (us.foldl freeStep r).1
  | [], r => Part.refl r.1
  | u :: us, r => (part_release r.1 u).trans (part_frees us (freeStep r u))
theorem Us.part {F G : Fs} (h : Us F) (hp : Part F.s G.s) (he : G.ep = F.ep) : Us G :=
  ⟨fun l hl => by rw [he]; exact (hp.1 l hl).elim (h.h l) (h.q l), fun l hl => by rw [he]; exact h.q l (hp.2 l hl)⟩
theorem us0 : Us fs0 := ⟨(fun l hl => by cases hl), (fun l hl => by cases hl)⟩
theorem pres_ep {F : Fs} {u : Int} (h : pres F u = true) : sysOf u ≠ 0 ∧ F.cn (sysOf u).toNat = true ∧ F.ep (sysOf u).toNat = epOf u := by
  unfold pres at h
  simpa using h
theorem Us.request {F : Fs} (h : Us F) (l : Lock) : Us (request F l).1 := by
  unfold P52.request
  split
  · exact h
  · split
    · exact h
    · rename_i hp
      split
      · exact h
      · have hp' := pres_ep (by simpa using hp : pres F l.unit = true)
        have hu : sysOf l.unit ≠ 0 ∧ epOf l.unit ≤ F.ep (sysOf l.unit).toNat := ⟨hp'.1, by rw [hp'.2.2]; exact Int.le_refl _⟩
        obtain ⟨h1, h2⟩ := request_in F.s l
        refine ⟨fun y hy => ?_, fun y hy => ?_⟩
        · rcases h1 y hy with h' | h' | h'
          · exact h.h y h'
          · exact h.q y h'
          · rw [h']; exact hu
        · rcases h2 y hy with h' | h'
          · exact h.q y h'
          · rw [h']; exact hu
theorem Us.connect {F : Fs} (h : Us F) (k e : Int) : Us (connect F k e).1 := by
  unfold P52.connect
  split
  · exact h
  · split
    · exact h
    · split
      · exact h
      · rename_i hle
        have key : ∀ n, F.ep n ≤ setAt F.ep k.toNat e n := fun n => by
          unfold setAt
          split
          · rename_i hn; subst hn; omega
          · exact Int.le_refl _
        exact ⟨fun l hl => ⟨(h.h l hl).1, Int.le_trans (h.h l hl).2 (key _)⟩, fun l hl => ⟨(h.q l hl).1, Int.le_trans (h.q l hl).2 (key _)⟩⟩
theorem fail_part (F : Fs) (k : Int) : Part F.s (fail F k).s := by
  unfold fail
  split
  · exact part_fails _ _ _ _
  · exact Part.refl _
theorem fail_ep (F : Fs) (k : Int) : (fail F k).ep = F.ep ∧ (fail F k).lost = F.lost := by
  unfold fail
  split <;> exact ⟨rfl, rfl⟩
theorem Us.rebuild {F : Fs} (h : Us F) (ls : List Lock) : Us (rebuild F ls).1 := by
  unfold P52.rebuild
  split
  · exact h
  · split
    · rename_i hok
      refine ⟨fun l hl => ?_, fun l hl => by cases hl⟩
      have hm := ((newL_inv ls).2.1 l hl).2
      obtain ⟨i, hi⟩ := List.mem_iff_getElem?.1 hm
      have hlt := (List.getElem?_eq_some_iff.1 hi).1
      have := pres_ep (okTo_at hok i l hlt hi).2.1
      exact ⟨this.1, by dsimp only; rw [this.2.2]; exact Int.le_refl _⟩
    · exact h
theorem Us.act {F : Fs} (h : Us F) (x : ActC) : Us (act F x).1 := by
  unfold P52.act
  repeat' split
  · exact h.part (part_cancel F.s x.l.unit) rfl
  · exact h.part (part_release F.s x.l.unit) rfl
  · exact h.connect _ _
  · exact h.part (fail_part F x.a) (fail_ep F x.a).1
  · exact h.part (part_frees (unitsL (retained F x.a)) (F.s, [])) rfl
  · exact ⟨(fun l hl => by cases hl), (fun l hl => by cases hl)⟩
  · exact h.rebuild _
  · exact h.request _
theorem mem_units {ls : List Lock} {u : Int} : u ∈ unitsL ls ↔ ∃ l ∈ ls, l.unit = u := by
  unfold unitsL
  rw [(setL_spec _).2, List.mem_map]
/-- After a failure nothing of the system waits. -/
theorem fails_none (F : Fs) (k : Int) (hg : ∀ u, sysOf u = k → gone F u k = true) : ∀ (us : List Int) (s : St), (∀ l ∈ s.q, sysOf l.unit = k → l.unit ∈ us) → ∀ l ∈ (us.foldl (failStep F k) s).q, sysOf l.unit ≠ k
  | [], s, h, l, hl => fun e => by have := h l hl e; cases this
  | u :: us, s, h, l, hl => by
    refine fails_none F k hg us (failStep F k s u) (fun y hy he => ?_) l hl
    unfold failStep at hy
    by_cases hgu : gone F u k = true
    · rw [if_pos hgu] at hy
      obtain ⟨h1, h2⟩ := (cancel_in s u).1 y hy
      rcases List.mem_cons.1 (h y h1 he) with h3 | h3
      · exact absurd h3 h2
      · exact h3
    · rw [if_neg hgu] at hy
      rcases List.mem_cons.1 (h y hy he) with h3 | h3
      · exact absurd (hg u (by rw [← h3]; exact he)) hgu
      · exact h3
theorem off_gone {F : Fs} {k : Int} (hk : okS k = true) {u : Int} (hu : sysOf u = k) : gone (off F k) u k = true := by
  have h1 : sysOf u ≠ 0 := by rw [hu]; unfold okS at hk; simp at hk; omega
  unfold gone pres off
  simp [hu, setAt_same]
  rw [← hu]
  exact h1
theorem fail_none {F : Fs} {k : Int} (hk : okS k = true) : ∀ l ∈ (fail F k).s.q, sysOf l.unit ≠ k := by
  unfold fail
  rw [if_pos hk]
  exact fails_none (off F k) k (fun u hu => off_gone hk hu) _ _ (fun l hl _ => mem_units.2 ⟨l, hl, rfl⟩)
/-- Nothing of system k waits, and unit m, of another system, holds nothing. -/
structure Calm (s : St) (k m : Int) : Prop where
  q : ∀ l ∈ s.q, sysOf l.unit ≠ k
  h : ∀ l ∈ s.h, l.unit ≠ m
theorem overlap_self {r : Rng} (h : emp r = false) : overlap r r = true := by
  rw [← overlap_formula h h]
  unfold emp at h
  unfold le
  cases e : r.e <;> simp_all
theorem filter_app_none {α : Type} {p : α → Bool} {a g : List α} (h : ∀ x ∈ g, p x = false) : (a ++ g).filter p = a.filter p := by
  have e : g.filter p = [] := List.filter_eq_nil_iff.2 (fun x hx => by rw [h x hx]; decide)
  rw [List.filter_append, e, List.append_nil]
/-- A lock asked for by m, that conflicts with a held one: it waits, and what system k holds stays. -/
theorem calm_ask {s : St} {k m : Int} {x y : Lock} (hc : Calm s k m) (hm : sysOf m ≠ k) (hx : x.unit = m) (hv : validL x = true) (hy : y ∈ s.h) (hcf : conflict y x = true) :
    (P46.request s x).2 = 15 ∧ Calm (P46.request s x).1 k m ∧ ∀ p : Lock → Bool, (∀ l, p l = true → sysOf l.unit = k) → (P46.request s x).1.h.filter p = s.h.filter p := by
  have hcov : covered s.h x = false := by
    unfold covered
    rw [List.any_eq_false]
    intro z hz
    have := hc.h z hz
    rw [← hx] at this
    simp [this]
  have key : ∀ t : St, Calm t k m → (∀ l ∈ t.q, l.unit ≠ m) → y ∈ t.h → P46.ask t x = (⟨t.h, t.q ++ [x]⟩, 15) := by
    intro t ht hq hyt
    have hn : ¬ Has t x.unit := by
      rintro (⟨l, hl, e⟩ | ⟨l, hl, e⟩)
      · exact ht.h l hl (by rw [e, hx])
      · exact hq l hl (by rw [e, hx])
    have hb : blks t.h t.q x ≠ [] := fun e => by
      have : y.unit ∈ blks t.h t.q x := mem_blks.2 (.inl ⟨y, hyt, rfl, hcf⟩)
      rw [e] at this
      cases this
    rw [← (order_free hv hn).2.2.1]
    exact (order_busy hv hn hb).1
  have fin : ∀ t : St, Calm t k m → Calm ⟨t.h, t.q ++ [x]⟩ k m := fun t ht => ⟨fun l hl => by
    rcases List.mem_append.1 hl with h | h
    · exact ht.q l h
    · rw [List.mem_singleton.1 h, hx]
      exact hm, ht.h⟩
  unfold P46.request
  rw [if_neg (by rw [hv]; decide), if_neg (by rw [hcov]; decide)]
  cases hi : idx s.q x.unit with
  | none =>
    have hq : ∀ l ∈ s.q, l.unit ≠ m := fun l hl => by rw [← hx]; exact idx_none.1 hi l hl
    dsimp only
    rw [key s hc hq hy]
    exact ⟨rfl, fin s hc, fun p _ => rfl⟩
  | some i =>
    dsimp only
    split
    · exact ⟨rfl, hc, fun p _ => rfl⟩
    · have hxm : x.unit = m := hx
      obtain ⟨c1, c2, c3⟩ := cancel_in s x.unit
      have ht : Calm (P46.cancel s x.unit).1 k m := ⟨fun l hl => hc.q l (c1 l hl).1, fun l hl => by
        rcases c2 l hl with h | h
        · exact hc.h l h
        · rw [← hx]; exact h.2⟩
      rw [key _ ht (fun l hl => by rw [← hx]; exact (c1 l hl).2) (c3 y hy)]
      refine ⟨rfl, fin _ ht, fun p hp => ?_⟩
      obtain ⟨g, hg1, hg2⟩ := cancel_app s x.unit
      dsimp only
      rw [hg1]
      refine filter_app_none fun l hl => ?_
      cases e : p l
      · rfl
      · exact absurd (hp l e) (hc.q l (hg2 l hl))
theorem calm_cancel {s : St} {k : Int} (hc : ∀ l ∈ s.q, sysOf l.unit ≠ k) (u : Int) : (∀ l ∈ (P46.cancel s u).1.q, sysOf l.unit ≠ k) ∧ ∀ p : Lock → Bool, (∀ l, p l = true → sysOf l.unit = k) → (P46.cancel s u).1.h.filter p = s.h.filter p := by
  refine ⟨fun l hl => hc l ((cancel_in s u).1 l hl).1, fun p hp => ?_⟩
  obtain ⟨g, hg1, hg2⟩ := cancel_app s u
  rw [hg1]
  refine filter_app_none fun l hl => ?_
  cases e : p l
  · rfl
  · exact absurd (hp l e) (hc l (hg2 l hl))
/-- Releases drop every lock of their units. -/
theorem frees_in (k : Int) : ∀ (us : List Int) (r : St × List Int), (∀ l ∈ r.1.q, sysOf l.unit ≠ k) → (∀ l ∈ (us.foldl freeStep r).1.q, sysOf l.unit ≠ k) ∧ ∀ l ∈ (us.foldl freeStep r).1.h, sysOf l.unit = k → l ∈ r.1.h ∧ l.unit ∉ us
  | [], r, h => ⟨h, fun l hl _ => ⟨hl, by simp⟩⟩
  | u :: us, r, h => by
    obtain ⟨r1, r2⟩ := release_in r.1 u
    obtain ⟨h1, h2⟩ := frees_in k us (freeStep r u) (fun l hl => h l (r1 l hl).1)
    refine ⟨h1, fun l hl he => ?_⟩
    obtain ⟨h3, h4⟩ := h2 l hl he
    obtain ⟨h5, h6⟩ := r2 l h3
    refine ⟨h6.elim id (fun h' => absurd he (h l h')), ?_⟩
    rw [List.mem_cons]
    rintro (e | e)
    · exact h5 e
    · exact h4 e
/-- After Free nothing is retained. -/
theorem free_none {F : Fs} {k : Int} (hq : ∀ l ∈ F.s.q, sysOf l.unit ≠ k) : retained (free F k).1 k = [] := by
  refine List.filter_eq_nil_iff.2 fun l hl => ?_
  intro hg
  have hk : sysOf l.unit = k := by
    unfold gone at hg
    simp at hg
    exact hg.1
  obtain ⟨h1, h2⟩ := (frees_in k (unitsL (retained F k)) (F.s, []) hq).2 l hl hk
  exact h2 (mem_units.2 ⟨l, List.mem_filter.2 ⟨h1, hg⟩, rfl⟩)
theorem gone_withS (F : Fs) (s : St) (u k : Int) : gone (withS F s) u k = gone F u k := rfl
theorem free_q {F : Fs} {k : Int} (hq : ∀ l ∈ F.s.q, sysOf l.unit ≠ k) (o : Int) : ∀ l ∈ (free F o).1.s.q, sysOf l.unit ≠ k := fun l hl => hq l ((part_frees (unitsL (retained F o)) (F.s, [])).2 l hl)
/-- What holds of the facility while unit m of another system asks for the retained locks of system k. -/
structure Ret (F : Fs) (k o m : Int) (kept : List Lock) : Prop where
  calm : Calm F.s k m
  sys : sysOf m = o
  ne : o ≠ k
  pres : pres F m = true
  lost : F.lost = false
  num : numB m = true
  valids : Valids F.s
  kept : retained F k = kept
theorem Ret.ask {F : Fs} {k o m : Int} {kept : List Lock} (r : Ret F k o m kept) {y : Lock} (hy : y ∈ kept) :
    (request F ⟨m, y.id, y.r, true⟩).2 = 15 ∧ Ret (request F ⟨m, y.id, y.r, true⟩).1 k o m kept := by
  have hyh := List.mem_filter.1 (r.kept ▸ hy : y ∈ retained F k)
  have hyv := r.valids.1 y hyh.1
  have hyk : sysOf y.unit = k := by
    have := hyh.2
    unfold gone at this
    simp at this
    exact this.1
  have hv : validL ⟨m, y.id, y.r, true⟩ = true := by
    unfold validL at hyv ⊢
    dsimp only
    rw [r.num]
    simp only [Bool.and_eq_true] at hyv ⊢
    exact ⟨⟨⟨⟨trivial, hyv.1.1.1.2⟩, hyv.1.1.2⟩, hyv.1.2⟩, hyv.2⟩
  have hcf : conflict y ⟨m, y.id, y.r, true⟩ = true := by
    unfold conflict
    have hne : y.unit ≠ m := fun e => r.ne (by rw [← r.sys, ← e, hyk])
    simp [hne, overlap_self (emp_valid hyv)]
  obtain ⟨h1, h2, h3⟩ := calm_ask (x := ⟨m, y.id, y.r, true⟩) r.calm (by rw [r.sys]; exact r.ne) rfl hv hyh.1 hcf
  have hs0 : sysOf m ≠ 0 := (pres_ep r.pres).1
  have e : request F ⟨m, y.id, y.r, true⟩ = (⟨F.ep, F.cn, (P46.request F.s ⟨m, y.id, y.r, true⟩).1, F.lost, if aloneB (F.s.h ++ F.s.q) ⟨m, y.id, y.r, true⟩ (sysOf m) = true then F.fast + 1 else F.fast⟩, (P46.request F.s ⟨m, y.id, y.r, true⟩).2) := by
    unfold P52.request
    rw [if_neg (by rw [hv]; simpa using hs0), if_neg (by dsimp only; rw [r.pres]; decide), if_neg (by rw [r.lost]; decide)]
  rw [e]
  refine ⟨h1, ⟨h2, r.sys, r.ne, r.pres, r.lost, r.num, request_valids r.valids _, ?_⟩⟩
  rw [← r.kept]
  exact h3 (fun l => gone F l.unit k) (fun l hl => by unfold gone at hl; simp at hl; exact hl.1)
/-- It begins so. -/
theorem Ret.start {F : Fs} {k o e c : Int} (hu : Us F) (hk : okS k = true) (ho : okS o = true) (hne : o ≠ k) (hl : F.lost = false) (hv : Valids F.s) (hq : ∀ l ∈ F.s.q, sysOf l.unit ≠ k) (he : e = F.ep o.toNat + 1) (h0 : 0 ≤ F.ep o.toNat) (hc : (connect F o e).2 = 0) (hcc : 1 ≤ c ∧ c < 65536) :
    Ret (connect F o e).1 k o ((e * 4 + o - 1) * 65536 + c) (retained F k) := by
  have ho' : 1 ≤ o ∧ o ≤ 4 := by unfold okS at ho; simpa using ho
  have hk' : 1 ≤ k ∧ k ≤ 4 := by unfold okS at hk; simpa using hk
  unfold connect at hc ⊢
  split at hc
  · cases hc
  · rename_i h1
    rw [if_neg h1]
    split at hc
    · cases hc
    · rename_i h2
      rw [if_neg h2]
      split at hc
      · cases hc
      · rename_i h3
        rw [if_neg h3]
        have he1 : 1 ≤ e ∧ e ≤ 65535 := by
          refine ⟨by omega, ?_⟩
          have : ¬ (65535 < e) := fun h => h1 (.inr (.inr h))
          omega
        obtain ⟨m1, m2⟩ := sysOf_make ho' he1 hcc
        refine ⟨⟨hq, fun l hl hm => ?_⟩, m1, hne, ?_, hl, ?_, hv, ?_⟩
        · have := (hu.h l hl).2
          rw [hm, m1, m2] at this
          omega
        · unfold P52.pres
          dsimp only
          rw [m1, m2]
          simp only [setAt_same]
          simp
          omega
        · unfold numB
          simp
          omega
        · unfold retained
          refine List.filter_congr fun l hl => ?_
          by_cases hs : sysOf l.unit = k
          · have hn : (sysOf l.unit).toNat ≠ o.toNat := by rw [hs]; omega
            unfold gone P52.pres
            dsimp only
            simp only [setAt_other _ _ hn]
          · unfold gone
            simp [hs]
theorem Ret.done {F : Fs} {k o m : Int} {kept : List Lock} (r : Ret F k o m kept) (u : Int) : retained (free (cancel F u).1 k).1 k = [] :=
  free_none (F := (cancel F u).1) (calm_cancel r.calm.q u).1
end P52
namespace P52
open P16 P46
theorem lost_request (F : Fs) (x : Lock) (h : F.lost = true) : (request F x).1 = F ∧ (request F x).2 ≠ 0 ∧ (request F x).2 ≠ 15 := by
  unfold request
  by_cases h1 : validL x = false ∨ sysOf x.unit = 0
  · rw [if_pos h1]
    exact ⟨rfl, (by simp), (by simp)⟩
  · rw [if_neg h1]
    by_cases h2 : pres F x.unit = false
    · rw [if_pos h2]
      exact ⟨rfl, (by simp), (by simp)⟩
    · rw [if_neg h2, if_pos h]
      exact ⟨rfl, (by simp), (by simp)⟩
theorem lose_exports (F : Fs) : exportsL (lose F) = [] := rfl
theorem mem_export {F : Fs} {k : Int} {l : Lock} : l ∈ exportL F k ↔ l ∈ F.s.h ∧ sysOf l.unit = k ∧ pres F l.unit = true := by
  unfold exportL
  rw [List.mem_filter]
  simp
theorem mem_exports {F : Fs} {l : Lock} : l ∈ exportsL F → l ∈ F.s.h ∧ pres F l.unit = true := by
  unfold exportsL
  simp only [List.mem_append, mem_export]
  rintro (((h | h) | h) | h) <;> exact ⟨h.1, h.2.2⟩
theorem rebuilt_ok {F : Fs} (hv : Valids F.s) (hc : Compat F.s.h) (G : Fs) (hep : G.ep = F.ep) (hcn : G.cn = F.cn) (hl : G.lost = true) : rebuild G (exportsL F) = (⟨G.ep, G.cn, ⟨exportsL F, []⟩, false, G.fast⟩, 0) := by
  have hok : okTo G (exportsL F) (exportsL F).length = true := by
    refine okTo_of (fun i x hx => ?_) _
    have hm := mem_exports (List.mem_iff_getElem?.2 ⟨i, hx⟩)
    refine ⟨hv.1 x hm.1, ?_, fun y hy => hc x hm.1 y (mem_exports (List.mem_of_mem_take hy)).1⟩
    have := hm.2
    unfold pres at this ⊢
    rw [hep, hcn]
    exact this
  unfold rebuild
  rw [if_neg (by rw [hl]; decide), if_pos hok, newL_id (fun l hl => hv.1 l (mem_exports hl).1) (fun a ha b hb => hc a (mem_exports ha).1 b (mem_exports hb).1)]
theorem rebuilt_export {F G : Fs} (hep : G.ep = F.ep) (hcn : G.cn = F.cn) (hs : G.s.h = exportsL F) {k : Int} : exportL G k = (if k = 1 then exportL F 1 else []) ++ (if k = 2 then exportL F 2 else []) ++ (if k = 3 then exportL F 3 else []) ++ (if k = 4 then exportL F 4 else []) := by
  have key : ∀ j : Int, (exportL F j).filter (fun l => decide (sysOf l.unit = k) && pres G l.unit) = if k = j then exportL F j else [] := by
    intro j
    split
    · rename_i h
      subst h
      refine List.filter_eq_self.2 fun l hl => ?_
      obtain ⟨_, h1, h2⟩ := mem_export.1 hl
      have : pres G l.unit = pres F l.unit := by unfold pres; rw [hep, hcn]
      rw [this, h2]
      simp [h1]
    · rename_i h
      refine List.filter_eq_nil_iff.2 fun l hl => ?_
      obtain ⟨_, h1, h2⟩ := mem_export.1 hl
      simp only [Bool.and_eq_true, decide_eq_true_eq, not_and]
      intro e
      exact absurd (e.symm.trans h1) h
  conv => lhs; unfold exportL
  rw [hs]
  unfold exportsL
  rw [List.filter_append, List.filter_append, List.filter_append, key, key, key, key]
theorem rebuilt_exports {F G : Fs} (hep : G.ep = F.ep) (hcn : G.cn = F.cn) (hs : G.s.h = exportsL F) : exportsL G = exportsL F := by
  conv => lhs; unfold exportsL
  rw [rebuilt_export hep hcn hs, rebuilt_export hep hcn hs, rebuilt_export hep hcn hs, rebuilt_export hep hcn hs]
  simp [exportsL]
/-- All systems are connected, in the epoch 1, and nothing was lost. -/
structure All1 (F : Fs) : Prop where
  ep : ∀ k : Nat, 1 ≤ k → k ≤ 4 → F.ep k = 1
  cn : ∀ k : Nat, 1 ≤ k → k ≤ 4 → F.cn k = true
  lost : F.lost = false
theorem All1.pres {F : Fs} (h : All1 F) {x y : Int} (hx : 0 ≤ x ∧ x ≤ 3) (hy : 0 ≤ y ∧ y ≤ 3) : sysOf ((4 + x) * 65536 + 1 + y) ≠ 0 ∧ P52.pres F ((4 + x) * 65536 + 1 + y) = true := by
  obtain ⟨h1, h2⟩ := sysOf_make (s := x + 1) (e := 1) (c := 1 + y) (by omega) (by omega) (by omega)
  have e : (1 * 4 + (x + 1) - 1) * 65536 + (1 + y) = (4 + x) * 65536 + 1 + y := by omega
  rw [e] at h1 h2
  refine ⟨by rw [h1]; omega, ?_⟩
  unfold P52.pres
  rw [h1, h2, h.cn _ (by omega) (by omega), h.ep _ (by omega) (by omega)]
  simp
  omega
theorem All1.request {F : Fs} (h : All1 F) {l : Lock} (hs : sysOf l.unit ≠ 0) (hp : P52.pres F l.unit = true) : (request F l).1.s = (P46.request F.s l).1 ∧ (request F l).2 = (P46.request F.s l).2 ∧ All1 (request F l).1 := by
  unfold P52.request
  by_cases hv : validL l = false
  · rw [if_pos (.inl hv)]
    unfold P46.request
    rw [if_pos hv]
    exact ⟨rfl, rfl, h⟩
  · rw [if_neg (fun e => e.elim hv hs), if_neg (by rw [hp]; decide), if_neg (by rw [h.lost]; decide)]
    exact ⟨rfl, rfl, h.ep, h.cn, h.lost⟩
theorem All1.withS {F : Fs} (h : All1 F) (s : St) : All1 (withS F s) := ⟨h.ep, h.cn, h.lost⟩
/-- The facility after the first n systems have connected. -/
def conn1 (n : Nat) : Fs := ⟨fun i => if 1 ≤ i ∧ i ≤ n then 1 else 0, fun i => decide (1 ≤ i) && decide (i ≤ n), ⟨[], []⟩, false, 0⟩
theorem conn1_zero : conn1 0 = fs0 := by
  unfold conn1 fs0
  congr 1
  · funext i
    rw [if_neg (by omega)]
  · funext i
    cases i with
    | zero => rfl
    | succ i => simp
theorem conn1_next {n : Nat} (h : n < 4) : connect (conn1 n) (n + 1 : Nat) 1 = (conn1 (n + 1), 0) := by
  unfold connect
  have e1 : (((n + 1 : Nat) : Int)).toNat = n + 1 := by simp
  rw [if_neg (by unfold okS; simp; omega), e1, if_neg (by unfold conn1; simp), if_neg (by unfold conn1; dsimp only; rw [if_neg (by omega)]; decide)]
  congr 1
  unfold conn1
  congr 1
  · funext i
    unfold setAt
    by_cases h1 : i = n + 1
    · rw [if_pos h1, if_pos (by omega)]
    · rw [if_neg h1]
      dsimp only
      by_cases h2 : 1 ≤ i ∧ i ≤ n
      · rw [if_pos h2, if_pos (by omega)]
      · rw [if_neg h2, if_neg (by omega)]
  · funext i
    unfold setAt
    by_cases h1 : i = n + 1
    · rw [if_pos h1]; subst h1; simp
    · rw [if_neg h1]
      rw [Bool.eq_iff_iff]
      simp
      omega
theorem conn1_all : All1 (conn1 4) := ⟨fun k h1 h2 => by unfold conn1; dsimp only; rw [if_pos ⟨h1, h2⟩], fun k h1 h2 => by unfold conn1; simp [h1, h2], rfl⟩
end P52
namespace P52
open P16 P46
/-- Epochs are between 0 and the greatest one. -/
def Ep (F : Fs) : Prop := ∀ i, 0 ≤ F.ep i ∧ F.ep i ≤ 65535
theorem ep0 : Ep fs0 := fun i => by simp [fs0]
theorem Ep.of {F G : Fs} (h : Ep F) (e : G.ep = F.ep) : Ep G := fun i => by rw [e]; exact h i
theorem Ep.connect {F : Fs} (h : Ep F) (k e : Int) : Ep (connect F k e).1 := by
  unfold P52.connect
  by_cases h1 : okS k = false ∨ e < 1 ∨ 65535 < e
  · rw [if_pos h1]; exact h
  · rw [if_neg h1]
    by_cases h2 : F.cn k.toNat = true
    · rw [if_pos h2]; exact h
    · rw [if_neg h2]
      by_cases h3 : e ≤ F.ep k.toNat
      · rw [if_pos h3]; exact h
      · rw [if_neg h3]
        intro i
        have h4 : ¬ e < 1 := fun x => h1 (.inr (.inl x))
        have h5 : ¬ 65535 < e := fun x => h1 (.inr (.inr x))
        dsimp only
        unfold setAt
        split
        · omega
        · exact h i
theorem request_ep (F : Fs) (l : Lock) : (request F l).1.ep = F.ep := by
  unfold P52.request
  by_cases h1 : validL l = false ∨ sysOf l.unit = 0
  · rw [if_pos h1]
  · rw [if_neg h1]
    by_cases h2 : pres F l.unit = false
    · rw [if_pos h2]
    · rw [if_neg h2]
      by_cases h3 : F.lost = true
      · rw [if_pos h3]
      · rw [if_neg h3]
theorem rebuild_ep (F : Fs) (ls : List Lock) : (rebuild F ls).1.ep = F.ep := by
  unfold P52.rebuild
  by_cases h1 : F.lost = false
  · rw [if_pos h1]
  · rw [if_neg h1]
    by_cases h2 : okTo F ls ls.length = true
    · rw [if_pos h2]
    · rw [if_neg h2]
theorem Ep.act {F : Fs} (h : Ep F) (x : ActC) : Ep (act F x).1 := by
  unfold P52.act
  repeat' split
  · exact h.of rfl
  · exact h.of rfl
  · exact h.connect _ _
  · exact h.of (fail_ep F x.a).1
  · exact h.of rfl
  · exact h.of rfl
  · exact h.of (rebuild_ep _ _)
  · exact h.of (request_ep _ _)
/-- The facility before the retained locks are asked for. -/
def before (F : Fs) (s o : Int) : Fs := (free (fail (fail F s) o) o).1
theorem before_us {F : Fs} {s o : Int} (h : Us F) : Us (before F s o) :=
  ((h.part (fail_part F s) (fail_ep F s).1).part (fail_part (fail F s) o) (fail_ep (fail F s) o).1).part (part_frees (unitsL (retained (fail (fail F s) o) o)) ((fail (fail F s) o).s, [])) rfl
theorem before_ep {F : Fs} {s o : Int} : (before F s o).ep = F.ep := (fail_ep (fail F s) o).1.trans (fail_ep F s).1
theorem before_lost {F : Fs} {s o : Int} : (before F s o).lost = F.lost := (fail_ep (fail F s) o).2.trans (fail_ep F s).2
theorem before_q {F : Fs} {s o : Int} (hs : okS s = true) : ∀ l ∈ (before F s o).s.q, sysOf l.unit ≠ s :=
  free_q (fun l hl => fail_none hs l ((fail_part (fail F s) o).2 l hl)) o
theorem before_ok {F : Fs} {s o : Int} {n : Nat} (h : Ok F n) : Ok (before F s o) n := ((h.fail s).fail o).free o
end P52
