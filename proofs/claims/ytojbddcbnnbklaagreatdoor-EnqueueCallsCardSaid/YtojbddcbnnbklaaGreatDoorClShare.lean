/- Share: the walk. -/
import Derived.Test.YtojbddcbnnbklaaGreatDoorClRel
import Derived.Test.YtojbddcbnnbklaaGreatDoorClSorted
namespace Go.Proofs.YtojbddcbnnbklaaGreatDoor
open Go.RowKit P43 Go.Maps Go.Sort Go.Shelf
attribute [local go_sem] ByteArray.mk_append_mk ByteArray.extract_mk mk_index

theorem ownsMap_tight {H : Type} {w : World} {P : Program} {k : TypeId} {R : Value → Option (DataW H × List MemPlace)} {b n : Nat} {D : DataW H} (h : w.ownsMap P k R b n D) : w.ownsMap P k R b (Maps.size D) D := by
  obtain ⟨es, clock, hb, F, _, rfl⟩ := h
  exact ⟨es, clock, hb, F, by simp [Maps.size, length_sorted], rfl⟩
theorem NMap.tight {w : World} {b n : Nat} {ns : List (Nm × Bool)} (h : NMap w Tryz.prog 9 4 b n (lk ns)) (hk : Keys ns) : ns.length ≤ n ∧ NMap w Tryz.prog 9 4 b ns.length (lk ns) := by
  obtain ⟨D, hown, h2, h3⟩ := h.own
  obtain ⟨k1, k2⟩ := strKeys_spec hown Tryz.underlying9
  have hp : (strKeys D).Perm (names ns) := (List.perm_ext_iff_of_nodup k1 hk).2 fun x => by rw [k2, h2, lk_isSome]; rfl
  have hl := hp.length_eq
  have e : (strKeys D).length = Maps.size D := by
    obtain ⟨es, rfl, _⟩ := hown.entries (string_keyed Tryz.underlying9)
    show (es.map fun p => strOf p.1).length = es.length
    rw [List.length_map]
  have e2 : (names ns).length = ns.length := by unfold names; rw [List.length_map]
  have e3 : Maps.size D = ns.length := by omega
  refine ⟨by have := hown.size_le; omega, D, ?_, h2, h3⟩
  rw [← e3]
  exact ownsMap_tight hown
theorem lk_setF {c : Cl} {s : Nm} (hk : Keys c.ns) (hs : s ∈ names c.ns) : putN (lk c.ns) s false = lk (setF c s).ns := by
  have hk2 : Keys (setF c s).ns := by
    show (names (setF c s).ns).Nodup
    rw [setF_names]
    exact hk
  funext z
  unfold putN
  by_cases e : z = s
  · subst e
    rw [if_pos rfl]
    obtain ⟨p, hp, e⟩ := List.mem_map.1 hs
    exact ((lk_some hk2).2 (List.mem_map.2 ⟨p, hp, by rw [if_pos e, e]⟩)).symm
  · rw [if_neg e]
    refine Option.ext fun x => ?_
    rw [lk_some hk, lk_some hk2]
    constructor
    · intro h
      exact List.mem_map.2 ⟨(z, x), h, by rw [if_neg e]⟩
    · intro h
      obtain ⟨p, hp, h2⟩ := List.mem_map.1 h
      split at h2
      · rename_i hps
        have : p.1 = z := congrArg Prod.fst h2
        exact absurd (this.symm.trans hps) e
      · rw [← h2]
        exact hp
theorem fIdx_cases (f : Cm → Bool) (ls : List Cm) : (fIdx f ls = -1 ∧ ∀ x ∈ ls, f x = false) ∨ ∃ (k : Nat) (x : Cm), fIdx f ls = k ∧ ls[k]? = some x ∧ f x = true ∧ ∀ j, j < k → ∀ l, ls[j]? = some l → f l = false := by
  unfold fIdx
  cases h : ls.findIdx? f with
  | none => exact .inl ⟨rfl, by simpa using h⟩
  | some k =>
    rw [List.findIdx?_eq_some_iff_getElem] at h
    obtain ⟨hk, h1, h2⟩ := h
    refine .inr ⟨k, ls[k], rfl, List.getElem?_eq_getElem hk, h1, fun j hj l hl => ?_⟩
    obtain ⟨hj2, rfl⟩ := List.getElem?_eq_some_iff.1 hl
    simpa using h2 j hj
theorem held_at {hs ws : List Cm} {o : Int} {k : Nat} {x : Cm} (hx : hs[k]? = some x) (hid : x.1.id = o) (hj : ∀ j, j < k → ∀ l, hs[j]? = some l → decide (l.1.id = o) = false) : heldP (fstT hs ws) o = x.1.ns := by
  have e : ((fstT hs ws).hs.find? fun c => decide (c.id = o)) = some x.1 := by
    show ((hs.map (·.1)).find? fun c => decide (c.id = o)) = some x.1
    rw [List.find?_map]
    have : hs.find? ((fun c : Cl => decide (c.id = o)) ∘ fun x => x.1) = some x := by
      rw [List.find?_eq_some_iff_getElem]
      obtain ⟨hk, e⟩ := List.getElem?_eq_some_iff.1 hx
      refine ⟨by simpa using hid, k, hk, e, fun j hjk => ?_⟩
      have := hj j hjk hs[j] (List.getElem?_eq_getElem _)
      simpa using this
    rw [this]
    rfl
  unfold heldP
  rw [e]
  rfl
theorem held_nil {hs ws : List Cm} {o : Int} (h : ∀ x ∈ hs, decide (x.1.id = o) = false) : heldP (fstT hs ws) o = [] := by
  refine held_none fun hm => ?_
  obtain ⟨c, hc, e⟩ := List.mem_map.1 hm
  obtain ⟨x, hx, rfl⟩ := List.mem_map.1 hc
  have := h x hx
  rw [decide_eq_false_iff_not] at this
  exact this e
theorem split_at {α : Type} {l : List α} {k : Nat} {x : α} (h : l[k]? = some x) : l = l.take k ++ x :: l.drop (k + 1) := by
  obtain ⟨hk, e⟩ := List.getElem?_eq_some_iff.1 h
  rw [← e, ← List.drop_eq_getElem_cons hk, List.take_append_drop]
/-- A map of a holder written anew. -/
theorem Tbl.turn {w w4 : World} {B p : Nat} {pre post ws : List Cm} {vh vw : Value} {x : Cm} {c : Cl} (m : Tbl w B p (pre ++ x :: post) ws vh vw) (hc : c.id = x.1.id) (hg : w.grownBy w4 (some x.2)) (hn : NsAt w4 (c, x.2)) :
    Tbl w4 B p (pre ++ (c, x.2) :: post) ws vh vw ∧ Moved p (fun k => k = x.2) w w4 := by
  have hxm : x ∈ pre ++ x :: post ++ ws := by simp
  have hnf : ¬ Foot w p x.2 := fun hf => by obtain ⟨t, cs, hb⟩ := Foot.blk m.toTab hf; exact (m.maps.ns x hxm).noBlk hb
  have ht := m.toTab.far hg (fun k e => by cases e; exact hnf)
  have ecc : ccs (pre ++ (c, x.2) :: post) = ccs (pre ++ x :: post) := by
    rw [ccs_append, ccs_append, ccs_cons, ccs_cons]
    simp [cc, hc]
  have hold : OwnK w4 B tC vh (pre ++ (c, x.2) :: post) := by
    have := ht.held
    unfold OwnK at this ⊢
    rw [ecc]
    simpa using this
  have hnd := m.maps.nd
  have hne : ∀ y ∈ pre ++ post ++ ws, y.2 ≠ x.2 := by
    intro y hy e
    have hp : (pre ++ x :: post ++ ws).Perm (x :: (pre ++ post ++ ws)) := by
      rw [List.append_assoc, List.cons_append, List.append_assoc]
      exact List.perm_middle
    have := ((hp.map (·.2)).nodup_iff).1 hnd
    exact (List.nodup_cons.1 this).1 (List.mem_map.2 ⟨y, hy, e⟩)
  refine ⟨⟨⟨ht.box, ht.base, hold, ht.wait, ht.apart⟩, ⟨fun y hy => ?_, fun y hy => ?_, ?_⟩⟩, hg.os, hg.tape, hg.output, hg.size, fun k hk _ hm => hg.block k hk (fun e => hm (by simpa using e)), fun k hk => .inl (m.toTab.foot.2 (ht.foot.1 hk))⟩
  · simp only [List.mem_append, List.mem_cons] at hy
    by_cases e : y = (c, x.2)
    · rw [e]; exact hn
    · have hy2 : y ∈ pre ++ post ++ ws := by
        simp only [List.mem_append]
        rcases hy with (h | h | h) | h
        · exact .inl (.inl h)
        · exact absurd h e
        · exact .inl (.inr h)
        · exact .inr h
      have hym : y ∈ pre ++ x :: post ++ ws := by
        simp only [List.mem_append, List.mem_cons] at hy2 ⊢
        rcases hy2 with (h | h) | h <;> simp [h]
      have h0 := m.maps.ns y hym
      exact h0.heap (hg.block _ h0.lt (fun e2 => hne y hy2 (by simpa using e2)))
  · simp only [List.mem_append, List.mem_cons] at hy
    rcases hy with (h | rfl | h) | h
    · exact m.maps.lo y (by simp [h])
    · exact m.maps.lo x hxm
    · exact m.maps.lo y (by simp [h])
    · exact m.maps.lo y (by simp [h])
  · have : (pre ++ (c, x.2) :: post ++ ws).map (·.2) = (pre ++ x :: post ++ ws).map (·.2) := by simp
    rw [this]
    exact hnd
theorem shareL_at {pre post : List Cm} {x : Cm} {s : Nm} (hnd : (ids ((pre ++ x :: post).map (·.1))).Nodup) : shareL ((pre ++ x :: post).map (·.1)) x.1.id s = (pre ++ (setF x.1 s, x.2) :: post).map (·.1) := by
  unfold shareL
  have hne : ∀ y ∈ pre ++ post, ¬ y.1.id = x.1.id := by
    intro y hy e
    have hp : (pre ++ x :: post).Perm (x :: (pre ++ post)) := List.perm_middle
    have := (((hp.map (Prod.fst (α := Cl) (β := Nat))).map Cl.id).nodup_iff).1 hnd
    exact (List.nodup_cons.1 this).1 (List.mem_map.2 ⟨y.1, List.mem_map.2 ⟨y, hy, rfl⟩, e⟩)
  simp only [List.map_append, List.map_cons, if_pos, List.map_map]
  congr 1
  · refine List.map_congr_left fun y hy => ?_
    simp only [Function.comp]
    rw [if_neg (hne y (by simp [hy]))]
  · congr 1
    refine List.map_congr_left fun y hy => ?_
    simp only [Function.comp]
    rw [if_neg (hne y (by simp [hy]))]
set_option maxRecDepth 100000 in
set_option maxHeartbeats 4000000 in
theorem clShare (B p : Nat) (t : T) (F : Nat → Prop) (o : Int) (s : Nm) (w : World) (m : TT w B p t F) (hl : t.hs.length + t.ws.length ≤ 100000) (hnd : (ids t.hs).Nodup) (hs0 : s.length ≤ 1000) :
    Calls Tryz.prog 25 #[.pointer (some ⟨p, 0, none⟩), .int .i64 o, .string ⟨s.toArray⟩] w (LoPost F w B p (shareP t o s)) := by
  obtain ⟨hs, ws, vh, vw, mT, rfl, hF⟩ := m
  have HF := Lib.hid hF
  have HMT := Lib.hid mT
  have HND := Lib.hid hnd
  have hl1 : hs.length + ws.length ≤ 100000 := by simpa [fstT] using hl
  have hz : ∀ w, (zeroValue 4).run Tryz.prog w = .ok (.bool false) w := fun w => by kernel_rfl
  have HSL := Lib.hid (show s.length ≤ maxLen from by unfold maxLen; omega)
  clear hF mT hl hnd hs0
  obtain ⟨Ah, ch, rfl, hh⟩ := HMT.out.clsH
  have HH := Lib.hid hh
  have hc0 := HMT.out.box.cell 0
  simp at hc0
  clear hh
  go_enter Tryz.func25, Tryz.ntmps25
  go_wp2_with fail
  refine (clFind o Ah hs.length ch hs w HH.out.at_ (by omega)).mono ?_
  rintro e w2 ⟨rfl, hb2⟩
  have HB2 := Lib.hid hb2
  have HM2 := Lib.hid (HMT.out.below hb2)
  have hd0 := HM2.out.box.cell 0
  simp at hd0
  have hat := HH.out.at_.below hb2
  rcases fIdx_cases (fun l : Cm => decide (l.1.id = o)) hs with ⟨hj, hno⟩ | ⟨k, x, hj, hx, hid, hjk⟩
  · rw [hj]
    have hrp : shareP (fstT hs ws) o s = (fstT hs ws, [], 6) := by
      unfold shareP
      rw [held_nil hno, if_neg (by simp [names])]
    have HRP := Lib.hid hrp
    have HNO := Lib.hid hno
    clear hj hno hb2 hc0 hat hrp
    go_wp2
    go_ret2
    rw [HRP.out]
    exact TPost.same ⟨hs, ws, _, vw, HMT.out, rfl, HF.out⟩ HB2.out ⟨_, rfl, OwnI.nil _ _⟩
  · rw [hj]
    have hkl : k < hs.length := (List.getElem?_eq_some_iff.1 hx).1
    obtain ⟨b, off, x', rfl, hx', x0, x1⟩ := hat.at_ hkl
    obtain rfl : x = x' := by rw [hx] at hx'; exact Option.some.inj hx'
    have HHE := Lib.hid (held_at (ws := ws) hx (by simpa using hid) hjk)
    have HX := Lib.hid hx
    have HID := Lib.hid (show x.1.id = o by simpa using hid)
    have HNX := Lib.hid (HM2.out.maps.ns x (List.mem_append_left _ (List.mem_of_getElem? hx)))
    have hk1 : (k : Int) < (hs.length : Int) := by omega
    have hk2 : (0 : Int) ≤ (k : Int) := by omega
    obtain ⟨n, hn⟩ : ∃ n, hs.length = n := ⟨_, rfl⟩
    have HN := Lib.hid hn
    clear hj hx hx' hid hjk hb2 hat hc0
    by_cases hin : s ∈ names x.1.ns
    · obtain ⟨y, hy⟩ := Option.isSome_iff_exists.1 (lk_isSome.2 hin)
      have HY := Lib.hid hy
      have HIN := Lib.hid hin
      clear hy hin
      have HRP := Lib.hid (show shareP (fstT hs ws) o s = ((share (fstT hs ws) o s).1, (share (fstT hs ws) o s).2, 0) from by
        unfold shareP
        rw [HHE.out, if_pos HIN.out])
      have HSP := Lib.hid (split_at HX.out)
      go_wp2_with (first | (refine wpList_nm_ok rfl (.tmp 27) (.tmp 28) _ rfl Tryz.underlying74 Tryz.underlying9 Tryz.underlying4 (hz _) rfl HNX.out.1 s HSL.out rfl ?_; rw [HY.out]; simp only [Option.getD_some, Option.isSome_some]) | (refine wpList_nm_put rfl (.tmp 41) (.tmp 42) _ _ rfl Tryz.underlying74 Tryz.underlying9 Tryz.underlying4 rfl HNX.out.1 (by unfold maxLen; omega) s HSL.out rfl false rfl ?_; intro w4 hm4 hg4; have HM4 := Lib.hid hm4; have HG4 := Lib.hid hg4; clear hm4 hg4))
      have hns : NsAt w4 (setF x.1 s, x.2) := by
        have h1 := HM4.out
        rw [lk_setF HNX.out.2 HIN.out] at h1
        have hk : Keys (setF x.1 s).ns := by show (names (setF x.1 s).ns).Nodup; rw [setF_names]; exact HNX.out.2
        have h2 := (HNX.out.1.tight HNX.out.2).1
        have h3 := (h1.tight hk).2
        have h4 : (setF x.1 s).ns.length = x.1.ns.length := by simp [setF]
        exact ⟨h3.mono (by rw [h4]; exact h2), hk⟩
      have hmt := HM2.out
      rw [HSP.out] at hmt
      have htr := hmt.turn (c := setF x.1 s) rfl HG4.out hns
      have HT4 := Lib.hid htr.1
      have HV4 := Lib.hid ((Moved.of_below (M := fun k => k = x.2) HB2.out HMT.out.box.lt).trans htr.2)
      have hlen : (hs.take k ++ (setF x.1 s, x.2) :: hs.drop (k + 1)).length = hs.length := by
        have := congrArg List.length HSP.out
        simp at this ⊢
        omega
      clear hns hmt htr x0 x1 hd0
      go_wp2_with fail
      refine (clLook B p _ ws _ vw w4 HT4.out (by omega)).mono ?_
      rintro e w5 h5
      have hxm : x ∈ hs ++ ws := List.mem_append_left _ (List.mem_of_getElem? HX.out)
      obtain ⟨v, rfl, ho5, ht5⟩ := lo_done HF.out HV4.out (fun k e => ⟨x, hxm, e.symm⟩) (fun y hy => by
        simp only [List.mem_append, List.mem_cons] at hy
        rcases hy with (h | rfl | h) | h
        · exact ⟨y, List.mem_append_left _ (List.mem_of_mem_take h), rfl⟩
        · exact ⟨x, hxm, rfl⟩
        · exact ⟨y, List.mem_append_left _ (List.mem_of_mem_drop h), rfl⟩
        · exact ⟨y, List.mem_append_right _ h, rfl⟩) h5
      have HO5 := Lib.hid ho5
      have HT5 := Lib.hid ht5
      clear h5 ho5 ht5
      go_wp2
      go_ret2
      have e9 : share (fstT hs ws) o s = P43.look (fstT (hs.take k ++ (setF x.1 s, x.2) :: hs.drop (k + 1)) ws) := by
        have hnd := HND.out
        unfold fstT at hnd
        simp only at hnd
        rw [HSP.out] at hnd
        have := shareL_at (s := s) hnd
        rw [HID.out, ← HSP.out] at this
        unfold share
        show P43.look ⟨shareL (hs.map (·.1)) o s, ws.map (·.1)⟩ = _
        rw [this]
        rfl
      rw [HRP.out, e9]
      exact ⟨⟨_, rfl, HO5.out⟩, HT5.out⟩
    · have hy : lk x.1.ns s = none := by
        cases h : lk x.1.ns s with
        | none => rfl
        | some y => exact absurd (lk_isSome.1 (by rw [h]; rfl)) hin
      have HY := Lib.hid hy
      have HRP := Lib.hid (show shareP (fstT hs ws) o s = (fstT hs ws, [], 6) from by
        unfold shareP
        rw [HHE.out, if_neg hin])
      clear hy hin
      go_wp2_with (refine wpList_nm_ok rfl (.tmp 27) (.tmp 28) _ rfl Tryz.underlying74 Tryz.underlying9 Tryz.underlying4 (hz _) rfl HNX.out.1 s HSL.out rfl ?_; rw [HY.out]; simp only [Option.getD_none, Option.isSome_none])
      go_ret2
      rw [HRP.out]
      exact TPost.same ⟨hs, ws, _, vw, HMT.out, rfl, HF.out⟩ HB2.out ⟨_, rfl, OwnI.nil _ _⟩
end Go.Proofs.YtojbddcbnnbklaaGreatDoor
