/- Holders: who holds a name; slices.Sort of a row of numbers of the call's own. -/
import Derived.Test.YtojbddcbnnbklaaGreatDoorClHeld
import Derived.Test.YtojbddcbnnbklaaGreatDoorClPlain
import Derived.Sort.OwnSortedInts
namespace Go.Proofs.YtojbddcbnnbklaaGreatDoor
open Go.RowKit P43 Go.Maps Go.Sort Go.Shelf
attribute [local go_sem] ByteArray.mk_append_mk ByteArray.extract_mk mk_index

theorem clSortI (B : Nat) (v : Value) (xs : List Int) (w : World) (h : OwnI w B v xs) (hl : xs.length ≤ 1000000) :
    Calls Tryz.prog 32 #[v] w fun e w' => e = .returned (.tuple #[]) ∧ OwnI w' B v (sortZ xs) ∧ w.grownBy w' v.ownBlock := by
  rcases h.2 with ⟨rfl, h0⟩ | ⟨g, cap, cur, rfl, a2, a3, a4, a5, a6, a7⟩
  · have : xs = [] := by simpa using h0
    subst this
    refine (AnyM.slices_Sort_int_none Tryz.sortI none 0 w).mono ?_
    rintro e w' ⟨rfl, rfl⟩
    exact ⟨rfl, by simpa [sortZ] using h, grown_refl _ _⟩
  · have hH := holds_of_blockI (ss := xs) a3 (by simpa using a7)
    refine (AnyM.slices_Sort_int Tryz.sortI g 0 cap xs w hH (Array.getElem?_eq_some_iff.1 a3).1 (by omega)).mono ?_
    rintro e w' ⟨rfl, n, os, rfl⟩
    refine ⟨rfl, ?_, grownBy_sortedI _⟩
    have := ownsRow_sortedI (w := w) (n := n) (os := os) (ss := xs) (ts := sortZ xs) (len_sortZ xs) a2 a3 a4 a5 a6
    unfold OwnI
    rw [len_sortZ]
    exact this
def hasN (s : Nm) (x : Cm) : Bool := (lk x.1.ns s).isSome
def exN (s : Nm) (x : Cm) : Bool := (lk x.1.ns s).getD false
theorem holders_fst (hs ws : List Cm) (s : Nm) : holdersP (fstT hs ws) s = (sortZ (idsM (hs.filter (hasN s))), hs.any (exN s)) := by
  unfold holdersP fstT idsM ids
  rw [List.filter_map, List.any_map, List.map_map]
  rfl
theorem filter_take {α : Type} {f : α → Bool} {l : List α} {k : Nat} {x : α} (h : l[k]? = some x) : (l.take (k + 1)).filter f = if f x = true then (l.take k).filter f ++ [x] else (l.take k).filter f := by
  rw [List.take_add_one, h, List.filter_append]
  by_cases e : f x = true <;> simp [e]
theorem any_take {α : Type} {f : α → Bool} {l : List α} {k : Nat} {x : α} (h : l[k]? = some x) : (l.take (k + 1)).any f = ((l.take k).any f || f x) := by
  rw [List.take_add_one, h, List.any_append]
  simp
theorem filter_len {α : Type} {f : α → Bool} (l : List α) (k : Nat) : ((l.take k).filter f).length ≤ l.length := Nat.le_trans (List.length_filter_le _ _) (by have := List.length_take_le' k l; omega)
set_option maxRecDepth 100000 in
set_option maxHeartbeats 4000000 in
theorem clHolders (B p : Nat) (t : T) (F : Nat → Prop) (s : Nm) (w : World) (m : TT w B p t F) (hl : t.hs.length + t.ws.length ≤ 100000) (hs0 : s.length ≤ 1000) :
    Calls Tryz.prog 21 #[.pointer (some ⟨p, 0, none⟩), .string ⟨s.toArray⟩] w fun e w' => ∃ v, e = .returned (.tuple #[v, .bool (holdersP t s).2]) ∧ OwnI w' w.heap.size v (holdersP t s).1 ∧ Below w.heap.size w w' := by
  obtain ⟨hs, ws, vh, vw, mT, rfl, hF⟩ := m
  have hl1 : hs.length ≤ 100000 := by simp [fstT] at hl; omega
  have hz : ∀ w, (zeroValue 4).run Tryz.prog w = .ok (.bool false) w := fun w => by kernel_rfl
  have HSL := Lib.hid (show s.length ≤ maxLen from by unfold maxLen; omega)
  have HHF := Lib.hid (holders_fst hs ws s)
  obtain ⟨A, c, rfl, hA⟩ := mT.clsH
  have hc := mT.box.cell 0
  simp at hc
  obtain ⟨n, hn⟩ : ∃ n, hs.length = n := ⟨_, rfl⟩
  rw [hn] at hc hl1 hA
  have HA := Lib.hid hA
  have HN := Lib.hid hn
  obtain ⟨i1, hi1', hy0, hy1, hy2⟩ := info_parts infoI
  have HI1 := Lib.hid hi1'
  have HY0 := Lib.hid hy0
  have HY1 := Lib.hid hy1
  have HY2 := Lib.hid hy2
  have HZ := Lib.hid hz
  clear mT hA hn hi1' hy0 hy1 hy2 hz hF hl hs0
  go_enter Tryz.func21, Tryz.ntmps21
  go_wp2
  go_loopw [6, 7, 17] (fun ov xv iv wr => ∃ k : Nat, k ≤ n ∧ iv = .int .i64 k ∧ OwnI wr w.heap.size ov (idsM ((hs.take k).filter (hasN s))) ∧ xv = .bool ((hs.take k).any (exN s)) ∧ Below w.heap.size w wr) (fun _ _ iv _ => n - (intOf iv).toNat)
  case atStart => exact ⟨0, Nat.zero_le _, rfl, OwnI.nil _ _, rfl, Below.refl _ _⟩
  case round =>
    obtain ⟨k, hk, rfl, ho, rfl, hb⟩ := hrel
    have HO := Lib.hid ho
    have HB := Lib.hid hb
    have hsz := hb.size
    clear ho hb
    have hfl : (idsM ((hs.take k).filter (hasN s))).length ≤ 1000000 := by
      have := filter_len (f := hasN s) hs k
      unfold idsM
      rw [List.length_map]
      have := HN.out
      omega
    by_cases hlt : k < n
    · have hs2 := HA.out.at_.below HB.out
      obtain ⟨b, off, x, rfl, hx, x0, x1⟩ := hs2.at_ hlt
      have HX := Lib.hid hx
      have HNX := Lib.hid ((HA.out.ns x (List.mem_of_getElem? hx)).below HB.out)
      have hk1 : (k : Int) < (n : Int) := by omega
      have hk2 : (0 : Int) ≤ (k : Int) := by omega
      obtain ⟨E, hE⟩ : ∃ E, (hs.take k).any (exN s) = E := ⟨_, rfl⟩
      have HE := Lib.hid hE
      rw [hE]
      clear hs2 hx hE
      go_upto_region 6 with (fail)
      obtain ⟨w2, q, e1, e2, hb2, hq⟩ := boxes1 wr tC (ca x)
      unfold ca at e1
      rw [show wr.alloc (.cells #[.int .i64 x.1.id, .map (some x.2)] 76) = w2 from e1, e2]
      have hq0 := hq.cell 0
      have hq1 := hq.cell 1
      simp [ca] at hq0 hq1
      have hb02 := HB.out.trans (hb2.mono hsz)
      have HB2 := Lib.hid hb02
      have HO2 := Lib.hid (HO.out.below hb2)
      have HN2 := Lib.hid (HNX.out.below hb2)
      have hzr := HZ.out w2
      have hsz2 := hb02.size
      clear e1 e2 hb2 hq x0 x1 hb02 hc
      cases hv : lk x.1.ns s with
      | none =>
        have HV := Lib.hid hv
        have HHV := Lib.hid (show hasN s x = false from by unfold hasN; rw [hv]; rfl)
        have HEV := Lib.hid (show exN s x = false from by unfold exN; rw [hv]; rfl)
        clear hv
        go_wp2_with (refine wpList_nm_ok rfl (.tmp 23) (.tmp 24) _ rfl Tryz.underlying74 Tryz.underlying9 Tryz.underlying4 hzr rfl HN2.out.1 s HSL.out rfl ?_; rw [HV.out]; simp only [Option.getD_none, Option.isSome_none])
        refine ⟨⟨k + 1, hlt, by simp, ?_, ?_, HB2.out⟩, by dsimp only [intOf]; omega⟩
        · rw [filter_take HX.out, HHV.out]
          simpa using HO2.out
        · rw [any_take HX.out, HE.out, HEV.out, Bool.or_false]
      | some y =>
        have HV := Lib.hid hv
        have HHV := Lib.hid (show hasN s x = true from by unfold hasN; rw [hv]; rfl)
        have HEV := Lib.hid (show exN s x = y from by unfold exN; rw [hv]; rfl)
        clear hv
        cases E
        all_goals
          go_wp2_with (first | (refine wpList_nm_ok rfl (.tmp 23) (.tmp 24) _ rfl Tryz.underlying74 Tryz.underlying9 Tryz.underlying4 hzr rfl HN2.out.1 s HSL.out rfl ?_; rw [HV.out]; simp only [Option.getD_some, Option.isSome_some]) | (at_builtin; refine wpList_append_int rfl (.tmp 29) (.tmp 32) _ rfl w.heap.size i1 _ Tryz.underlying33 HI1.out HY0.out HY1.out HY2.out rfl u6 (idsM ((hs.take k).filter (hasN s))) rfl (HO2.out.alloc _) x.1.id w2.heap.size 1 rfl (World.cell?_alloc_mark w2 _ 3 (0, 0) 0) hfl (by simp; omega) ?_; intro v3 w3 hown3 hg3 hat3; have HO3 := Lib.hid hown3; have HG3 := Lib.hid hg3; clear hown3 hg3 hat3))
          refine ⟨⟨k + 1, hlt, by simp, ?_, ?_, (HB2.out.alloc hsz2 _).grown HG3.out (by simp; omega) (fun k e => (HO2.out.lt k e).1)⟩, by dsimp only [intOf]; omega⟩
          · rw [filter_take HX.out, HHV.out, if_pos rfl]
            unfold idsM at HO3 ⊢
            rw [List.map_append]
            exact HO3.out
          · rw [any_take HX.out, HE.out, HEV.out]
            simp
    · have hkn : k = n := by omega
      subst hkn
      have hk1 : ¬ (k : Int) < (k : Int) := by omega
      have htk : hs.take k = hs := by rw [← HN.out, List.take_length]
      rw [htk] at HO ⊢
      rw [htk] at hfl
      clear htk
      go_wp2_with fail
      refine (clSortI w.heap.size u6 _ wr HO.out hfl).mono ?_
      rintro e w2 ⟨rfl, ho2, hg2⟩
      have HO2 := Lib.hid ho2
      have HG2 := Lib.hid hg2
      clear ho2 hg2
      go_wp2
      go_ret2
      rw [HHF.out]
      exact ⟨_, rfl, HO2.out, HB.out.grown HG2.out hsz (fun k e => (HO.out.lt k e).1)⟩
end Go.Proofs.YtojbddcbnnbklaaGreatDoor
