/- Fairness and sharing, in plain Lean. -/
import Derived.Test.YtojbddcbnnbklaaGreatDoorEnqM
namespace P43
theorem pair_sub {α : Type} {R : α → α → Prop} : ∀ {S L : List α}, S.Sublist L → L.Nodup → S.Pairwise R → L.Pairwise fun a b => a ∈ S → b ∈ S → R a b
  | _, _, .slnil, _, _ => .nil
  | S, a :: L, .cons _ h, hn, hp => by
    have hn' := List.nodup_cons.1 hn
    exact List.Pairwise.cons (fun b _ ha => absurd (h.subset ha) hn'.1) (pair_sub h hn'.2 hp)
  | a :: S, _ :: L, .cons_cons _ h, hn, hp => by
    have hn' := List.nodup_cons.1 hn
    have hp' := List.pairwise_cons.1 hp
    refine List.Pairwise.cons (fun b hb _ hbs => ?_) ((pair_sub h hn'.2 hp'.2).imp_of_mem fun {x y} hx hy hxy hxs hys => ?_)
    · rcases List.mem_cons.1 hbs with rfl | hbs
      · exact absurd hb hn'.1
      · exact hp'.1 b hbs
    · rcases List.mem_cons.1 hxs with rfl | hxs
      · exact absurd hx hn'.1
      · rcases List.mem_cons.1 hys with rfl | hys
        · exact absurd hy hn'.1
        · exact hxy hxs hys
theorem pair_all {α : Type} {R : α → α → Prop} : ∀ {L : List α}, (∀ a ∈ L, ∀ b ∈ L, R a b) → L.Pairwise R
  | [], _ => .nil
  | a :: L, h => .cons (fun b hb => h a (by simp) b (by simp [hb])) (pair_all fun x hx y hy => h x (by simp [hx]) y (by simp [hy]))
theorem ahead_sub {α : Type} {p q pre post : List α} {c : α} (hnd : (pre ++ c :: post).Nodup) (hs : (p ++ c :: q).Sublist (pre ++ c :: post)) : ∀ x ∈ p, x ∈ pre := by
  intro x hx
  rcases List.mem_append.1 (hs.subset (List.mem_append_left _ hx)) with h | h
  · exact h
  · exfalso
    have hS := hnd.sublist hs
    rw [List.nodup_append] at hS
    obtain ⟨h1, h2, h3⟩ := hS
    have h2' := List.nodup_cons.1 h2
    have hR : (p ++ c :: q).Pairwise fun a b => ¬ (a = c ∧ b ∈ p) := by
      rw [List.pairwise_append]
      refine ⟨pair_all fun a ha b _ e => h3 a ha c (by simp) e.1, List.Pairwise.cons (fun b hb e => h3 b e.2 b (by simp [hb]) rfl) (pair_all fun a ha b _ e => h2'.1 (e.1 ▸ ha)), fun a ha b _ e => h3 a ha c (by simp) e.1⟩
    have hL := pair_sub hs hnd hR
    rw [List.pairwise_append] at hL
    rcases List.mem_cons.1 h with rfl | h
    · exact h3 x hx x (by simp) rfl
    · exact (List.pairwise_cons.1 hL.2.1).1 x h (by simp) (by simp [hx]) ⟨rfl, hx⟩
theorem ids_once {l : List Cl} (h : (ids l).Nodup) : l.Nodup := by
  unfold ids at h
  exact List.Pairwise.of_map (R := (· ≠ ·)) (S := (· ≠ ·)) _ (fun a b hab e => hab (by rw [e])) h
/-- Who goes on conflicts with nobody that waits before it and waits on. -/
theorem lookGo_fair : ∀ (rest h st : List Cl) (out : List Int), (ids (h ++ (st ++ rest))).Nodup → rest.Pairwise (fun c x => c ∈ (lookGo h st rest out).1.ws → x ∈ (lookGo h st rest out).1.hs → conf c x = false) ∧
    ∀ c ∈ st, ∀ x ∈ rest, x ∈ (lookGo h st rest out).1.hs → conf c x = false
  | [], h, st, out, _ => ⟨.nil, fun _ _ x hx => by cases hx⟩
  | y :: rest, h, st, out, hn => by
    have hinh : ∀ {a : Cl} {hh ss : List Cl} {oo : List Int}, (ids (hh ++ (ss ++ rest))).Nodup → a ∈ (lookGo hh ss rest oo).1.hs → a ∈ ss → False := by
      intro a hh ss oo hnd ha1 ha2
      obtain ⟨g, r, e, h2, h3, h4⟩ := lookGo_parts rest hh ss oo
      rw [e] at ha1
      simp only [ids_append, List.nodup_append] at hnd
      rcases List.mem_append.1 ha1 with h5 | h5
      · exact hnd.2.2 _ (mem_ids h5) _ (List.mem_append_left _ (mem_ids ha2)) rfl
      · exact hnd.2.1.2.2 _ (mem_ids ha2) _ (mem_ids (h2.subset h5)) rfl
    rw [lookGo]
    split
    · rename_i hb
      have hn' : (ids (h ++ [y] ++ (st ++ rest))).Nodup := by
        have hp : (ids (h ++ [y] ++ (st ++ rest))).Perm (ids (h ++ (st ++ y :: rest))) := by
          unfold ids
          refine List.Perm.map _ ?_
          rw [List.append_assoc]
          refine List.Perm.append_left h ?_
          exact (List.perm_middle (l₁ := st) (l₂ := rest) (a := y)).symm
        exact hp.nodup_iff.2 hn
      obtain ⟨i1, i2⟩ := lookGo_fair rest (h ++ [y]) st (out ++ [y.id]) hn'
      refine ⟨List.Pairwise.cons (fun x hx hy1 _ => ?_) i1, fun c hc x hx hxh => ?_⟩
      · exfalso
        obtain ⟨g, r, e, h2, h3, h4⟩ := lookGo_parts rest (h ++ [y]) st (out ++ [y.id])
        rw [e] at hy1
        simp only [ids_append, List.nodup_append] at hn'
        have hyi : y.id ∈ ids h ++ ids [y] := List.mem_append_right _ (by simp [ids])
        rcases List.mem_append.1 hy1 with h5 | h5
        · exact hn'.2.2 _ hyi _ (List.mem_append_left _ (mem_ids h5)) rfl
        · exact hn'.2.2 _ hyi _ (List.mem_append_right _ (mem_ids (h3.subset h5))) rfl
      · rcases List.mem_cons.1 hx with rfl | hx
        · rw [blk_nil] at hb
          exact hb c (List.mem_append_right _ hc)
        · exact i2 c hc x hx hxh
    · rename_i hb
      have hn' : (ids (h ++ (st ++ [y] ++ rest))).Nodup := by simpa using hn
      obtain ⟨i1, i2⟩ := lookGo_fair rest h (st ++ [y]) out hn'
      refine ⟨List.Pairwise.cons (fun x hx _ hxh => i2 y (by simp) x hx hxh) i1, fun c hc x hx hxh => ?_⟩
      rcases List.mem_cons.1 hx with rfl | hx
      · exact absurd (hinh hn' hxh (by simp)) id
      · exact i2 c (by simp [hc]) x hx hxh
/-- What stays true from the state t0 on while owners go away. -/
structure Fr (t0 t : T) : Prop where
  inv : Inv t
  sub : t.ws.Sublist t0.ws
  hold : ∀ x ∈ t.hs, x ∈ t0.hs ∨ x ∈ t0.ws
  fair : t0.ws.Pairwise fun c x => c ∈ t.ws → x ∈ t.hs → conf c x = false
theorem Fr.start {t : T} (i : Inv t) : Fr t t :=
  ⟨i, List.Sublist.refl _, fun _ hx => .inl hx, pair_all (fun _ _ _ hx _ hxh => absurd rfl (i.apart hxh hx))⟩
theorem Fr.release {t0 t : T} (f : Fr t0 t) (i0 : Inv t0) (n : Int) : Fr t0 (release t n).1 ∧ (∀ x ∈ (release t n).1.hs, x.id ≠ n) ∧ (∀ x ∈ (release t n).1.ws, x.id ≠ n) ∧ (∀ x ∈ (release t n).1.hs, x ∈ t0.hs → x ∈ t.hs) ∧ ∀ x ∈ (release t n).1.hs ++ (release t n).1.ws, x ∈ t.hs ++ t.ws := by
  obtain ⟨g, r, h1, h2, h3, h4⟩ := look_eq ⟨drop t.hs n, drop t.ws n⟩
  have hrel : P43.release t n = (⟨drop t.hs n ++ g, r⟩, ids g) := h1
  have hinv := release_inv f.inv n
  have hn : (ids (drop t.hs n ++ ([] ++ drop t.ws n))).Nodup := by
    have h0 := f.inv.once
    refine h0.sublist ?_
    unfold ids
    rw [List.nil_append]
    exact ((drop_sub _ _).append (drop_sub _ _)).map _
  have hf := (lookGo_fair (drop t.ws n) (drop t.hs n) [] [] hn).1
  rw [show lookGo (drop t.hs n) [] (drop t.ws n) [] = (⟨drop t.hs n ++ g, r⟩, ids g) from h1] at hf
  rw [hrel] at hinv ⊢
  simp only at hf h2 h3 h4
  have hw0 := ids_once i0.wait
  refine ⟨⟨hinv, h3.trans ((drop_sub _ _).trans f.sub), fun x hx => ?_, ?_⟩, fun x hx => ?_, fun x hx => (mem_drop.1 (h3.subset hx)).2, fun x hx hx0 => ?_, fun x hx => ?_⟩
  · rcases List.mem_append.1 hx with hx | hx
    · exact f.hold x (mem_drop.1 hx).1
    · exact .inr (f.sub.subset (mem_drop.1 (h2.subset hx)).1)
  · have hp := pair_sub ((drop_sub t.ws n).trans f.sub) hw0 hf
    refine (f.fair.and hp).imp fun {c x} hcx hc hx => ?_
    rcases List.mem_append.1 hx with hx1 | hx1
    · exact hcx.1 (mem_drop.1 (h3.subset hc)).1 (mem_drop.1 hx1).1
    · exact hcx.2 (h3.subset hc) (h2.subset hx1) hc hx
  · rcases List.mem_append.1 hx with hx | hx
    · exact (mem_drop.1 hx).2
    · exact (mem_drop.1 (h2.subset hx)).2
  · rcases List.mem_append.1 hx with hx | hx
    · exact (mem_drop.1 hx).1
    · exact absurd rfl (i0.apart hx0 (f.sub.subset (mem_drop.1 (h2.subset hx)).1))
  · simp only [List.mem_append] at hx ⊢
    rcases hx with (hx | hx) | hx
    · exact .inl (mem_drop.1 hx).1
    · exact .inr (mem_drop.1 (h2.subset hx)).1
    · exact .inr (mem_drop.1 (h3.subset hx)).1
/-- The end of EnqueueFair: who waited behind nobody that is still there, while no holder of old is left, waits no more. -/
theorem Fr.done {t0 t : T} (f : Fr t0 t) (i0 : Inv t0) {pre post : List Cl} {c : Cl} (h0 : t0.ws = pre ++ c :: post) (hh : ∀ x ∈ t0.hs, x.ns ≠ [] → x ∉ t.hs) (hp : ∀ x ∈ pre, x ∉ t.hs ++ t.ws) : c.id ∉ ids t.ws := by
  intro hm
  have hc : c ∈ t.ws := by
    obtain ⟨d, hd, e⟩ := List.mem_map.1 hm
    have hd0 := f.sub.subset hd
    have hc0 : c ∈ t0.ws := by rw [h0]; simp
    have h1 := find_id i0.wait hd0
    have h2 := find_id i0.wait hc0
    rw [e, h2] at h1
    rw [Option.some.inj h1]
    exact hd
  obtain ⟨p, q, e⟩ := List.append_of_mem hc
  have hbusy := f.inv.busy p c q e
  apply hbusy
  rw [blk_nil]
  intro x hx
  cases hcf : conf x c with
  | false => rfl
  | true =>
    exfalso
    have hxn := (conf_ne hcf).1
    rcases List.mem_append.1 hx with hx | hx
    · rcases f.hold x hx with h1 | h1
      · exact hh x h1 hxn hx
      · rw [h0] at h1
        rcases List.mem_append.1 h1 with h1 | h1
        · exact hp x h1 (List.mem_append_left _ hx)
        · rcases List.mem_cons.1 h1 with rfl | h1
          · exact f.inv.apart hx hc rfl
          · have hf := f.fair
            rw [h0, List.pairwise_append] at hf
            have := (List.pairwise_cons.1 hf.2.1).1 x h1 hc hx
            rw [conf_comm, hcf] at this
            cases this
    · have hxw : x ∈ t.ws := by rw [e]; simp [hx]
      have hs := f.sub
      rw [e, h0] at hs
      have hnd := ids_once i0.wait
      rw [h0] at hnd
      have hxp : x ∈ pre := ahead_sub hnd hs x hx
      exact hp x hxp (List.mem_append_right _ hxw)
/-- What sharing leaves. -/
theorem share_facts {t : T} (i : Inv t) {o : Int} {s : Nm} (hs : s ∈ names (heldP t o)) :
    (∀ n ∈ (share t o s).2, n ∈ ids t.ws) ∧ (share t o s).2.Nodup ∧ (∀ n, heldP t n ≠ [] → (heldP (share t o s).1 n).length = (heldP t n).length) ∧ (holdersP (share t o s).1 s).2 = false ∧ s ∈ names (heldP (share t o s).1 o) ∧ (share t o s).1.ws.length + (share t o s).2.length = t.ws.length := by
  obtain ⟨g, r, h1, h2, h3, h4⟩ := look_eq ⟨shareL t.hs o s, t.ws⟩
  have hsh : share t o s = (⟨shareL t.hs o s ++ g, r⟩, ids g) := h1
  have hinv := share_inv i o s
  rw [hsh] at hinv ⊢
  simp only at h2 h3 h4
  have hmem : ∀ d ∈ t.hs, (if d.id = o then setF d s else d) ∈ shareL t.hs o s ++ g := fun d hd => List.mem_append_left _ (List.mem_map.2 ⟨d, hd, rfl⟩)
  have hheld : ∀ d ∈ t.hs, heldP ⟨shareL t.hs o s ++ g, r⟩ d.id = (if d.id = o then setF d s else d).ns := by
    intro d hd
    have := held_mem hinv (hmem d hd)
    rw [show (if d.id = o then setF d s else d).id = d.id by split <;> rfl] at this
    exact this
  have hne : heldP t o ≠ [] := fun e => by rw [e] at hs; cases hs
  obtain ⟨c, hc, rfl, ec⟩ := held_some hne
  rw [ec] at hs
  have hcn : heldP ⟨shareL t.hs c.id s ++ g, r⟩ c.id = (setF c s).ns := by rw [hheld c hc, if_pos rfl]
  refine ⟨fun n hn => ?_, ?_, fun n hn => ?_, ?_, ?_, ?_⟩
  · obtain ⟨d, hd, rfl⟩ := List.mem_map.1 hn
    exact mem_ids (h2.subset hd)
  · have := hinv.hold
    simp only [ids_append, List.nodup_append] at this
    exact this.2.1
  · obtain ⟨d, hd, rfl, ed⟩ := held_some hn
    rw [hheld d hd, ed]
    split
    · simp [setF]
    · rfl
  · unfold holdersP
    show (List.any _ _) = false
    rw [List.any_eq_false]
    intro d hd
    have hcm : setF c s ∈ shareL t.hs c.id s ++ g := by
      have := hmem c hc
      rwa [if_pos rfl] at this
    have hsf : (s, false) ∈ (setF c s).ns := by
      obtain ⟨p, hp, e⟩ := List.mem_map.1 hs
      exact List.mem_map.2 ⟨p, hp, by rw [if_pos e, e]⟩
    cases hv : val d.ns s with
    | none => simp
    | some z =>
      cases z with
      | false => simp
      | true =>
        exfalso
        have hm := val_mem hv
        by_cases he : d.id = c.id
        · have h5 := find_id hinv.hold hd
          have h6 := find_id hinv.hold hcm
          rw [setF_id] at h6
          rw [he, h6] at h5
          rw [← Option.some.inj h5] at hm
          obtain ⟨p, hp, e⟩ := List.mem_map.1 hm
          split at e
          · cases e
          · rename_i hps
            rw [e] at hps
            exact hps rfl
        · have h7 := hinv.compat (setF c s) hcm d hd (by rw [setF_id]; exact fun e => he e.symm)
          have h8 : conf (setF c s) d = true := conf_iff.2 ⟨(s, false), hsf, (s, true), hm, rfl, rfl⟩
          rw [h7] at h8
          cases h8
  · rw [hcn, setF_names]
    exact hs
  · have := h4.length_eq
    simp [ids] at this ⊢
    omega
end P43
