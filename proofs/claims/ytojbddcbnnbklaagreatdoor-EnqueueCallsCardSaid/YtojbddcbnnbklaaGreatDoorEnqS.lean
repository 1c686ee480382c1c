/- Sharing once more, in plain Lean. -/
import Derived.Test.YtojbddcbnnbklaaGreatDoorEnqG
namespace P43
theorem lookGo_stay : ∀ (post h pre : List Cl) (out : List Int), (∀ p c q, post = p ++ c :: q → blk (h ++ (pre ++ p)) c ≠ []) → lookGo h pre post out = (⟨h, pre ++ post⟩, out)
  | [], h, pre, out, _ => by rw [lookGo, List.append_nil]
  | c :: post, h, pre, out, hb => by
    rw [lookGo, if_neg (by simpa using hb [] c post rfl), lookGo_stay post h (pre ++ [c]) out (fun p d q e => by
      have := hb (c :: p) d q (by rw [e]; rfl)
      simpa using this)]
    simp
theorem look_stay {t : T} (i : Inv t) : look t = (t, []) := by
  unfold look
  rw [lookGo_stay t.ws t.hs [] [] (fun p c q e => by simpa using i.busy p c q e)]
  rfl
theorem setF_same {c : Cl} {s : Nm} (h : (s, true) ∉ c.ns) : setF c s = c := by
  unfold setF
  have : (c.ns.map fun p => if p.1 = s then (p.1, false) else p) = c.ns := by
    conv => rhs; rw [← List.map_id c.ns]
    refine List.map_congr_left fun p hp => ?_
    by_cases e : p.1 = s
    · rw [if_pos e]
      cases hv : p.2 with
      | false => exact Prod.ext rfl hv.symm
      | true => exact absurd (show (s, true) ∈ c.ns by rw [← e, ← hv]; exact hp) h
    · rw [if_neg e]
      rfl
  rw [this]
theorem share_same {t : T} (i : Inv t) (hk : ∀ c ∈ t.hs, (names c.ns).Nodup) {o : Int} {s : Nm} (h : (holdersP t s).2 = false) : share t o s = (t, []) := by
  have e : shareL t.hs o s = t.hs := by
    unfold shareL
    conv => rhs; rw [← List.map_id t.hs]
    refine List.map_congr_left fun c hc => ?_
    split
    · refine setF_same fun hm => ?_
      have hv := val_of (hk c hc) hm
      unfold holdersP at h
      have h1 : (t.hs.any fun c => (val c.ns s).getD false) = true := List.any_eq_true.2 ⟨c, hc, by rw [hv]; rfl⟩
      rw [show (t.hs.any fun c => (val c.ns s).getD false) = false from h] at h1
      cases h1
    · rfl
  unfold share
  rw [e]
  exact look_stay i
theorem share_left {t : T} (i : Inv t) (o : Int) (s : Nm) : ∀ x, x ∈ ids (share t o s).1.ws ↔ x ∈ ids t.ws ∧ x ∉ (share t o s).2 := by
  obtain ⟨g, r, h1, h2, h3, h4⟩ := look_eq ⟨shareL t.hs o s, t.ws⟩
  have hsh : share t o s = (⟨shareL t.hs o s ++ g, r⟩, ids g) := h1
  rw [hsh]
  have hp : (ids g ++ ids r).Perm (ids t.ws) := by
    rw [← ids_append]
    exact h4.map _
  have hn : (ids g ++ ids r).Nodup := hp.nodup_iff.2 i.wait
  rw [List.nodup_append] at hn
  intro x
  show x ∈ ids r ↔ x ∈ ids t.ws ∧ x ∉ ids g
  rw [← hp.mem_iff, List.mem_append]
  constructor
  · intro h
    exact ⟨.inr h, fun hg => hn.2.2 x hg x h rfl⟩
  · rintro ⟨h | h, hg⟩
    · exact absurd h hg
    · exact h
/-- What EnqueueShares asks, at once. -/
structure Shr (t t1 : T) (more : List Int) (o : Int) (s : Nm) : Prop where
  code : shareP t o s = (t1, more, 0)
  sub : ∀ n ∈ more, n ∈ ids t.ws
  once : more.Nodup
  same : ∀ n, heldP t n ≠ [] → (heldP t1 n).length = (heldP t n).length
  alone : (holdersP t1 s).2 = false
  again : shareP t1 o s = (t1, [], 0)
  left : ∀ x, x ∈ ids t1.ws ↔ x ∈ ids t.ws ∧ x ∉ more
theorem shr {t : T} {l : List OpL} (g : Good t l) {o : Int} {s : Nm} (h : s ∈ names (heldP t o)) : ∃ t1 more, Shr t t1 more o s ∧ Good t1 l := by
  obtain ⟨a1, a2, a3, a4, a5, _⟩ := share_facts g.inv h
  have hc : shareP t o s = ((share t o s).1, (share t o s).2, 0) := by unfold shareP; rw [if_pos h]
  have g1 : Good (share t o s).1 l := by
    have := good_share g o s
    rw [hc] at this
    exact this
  refine ⟨(share t o s).1, (share t o s).2, ⟨hc, a1, a2, a3, a4, ?_, share_left g.inv o s⟩, g1⟩
  unfold shareP
  rw [if_pos a5, share_same g1.inv (fun c hc => (g1.good c (List.mem_append_left _ hc)).srt.once) a4]
theorem shr_not {t : T} {o : Int} {s : Nm} (h : s ∉ names (heldP t o)) : shareP t o s = (t, [], 6) := by unfold shareP; rw [if_neg h]
end P43
