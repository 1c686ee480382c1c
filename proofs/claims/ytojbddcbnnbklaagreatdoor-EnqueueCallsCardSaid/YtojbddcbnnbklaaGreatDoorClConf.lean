/- conflict: whether two claims conflict. -/
import Derived.Test.YtojbddcbnnbklaaGreatDoorClFind
import Derived.Test.YtojbddcbnnbklaaGreatDoorNameMap
namespace Go.Proofs.YtojbddcbnnbklaaGreatDoor
open Go.RowKit P43
attribute [local go_sem] ByteArray.mk_append_mk ByteArray.extract_mk mk_index

/-- What a claim's map says of a name. -/
def lk (ns : List (Nm × Bool)) (s : Nm) : Option Bool := (ns.find? fun p => decide (p.1 = s)).map (·.2)
theorem lk_mem {ns : List (Nm × Bool)} {s : Nm} {x : Bool} (h : lk ns s = some x) : (s, x) ∈ ns := by
  unfold lk at h
  rw [Option.map_eq_some_iff] at h
  obtain ⟨⟨a, b⟩, h1, h2⟩ := h
  have h3 := List.mem_of_find?_eq_some h1
  have h4 := List.find?_some h1
  simp only [decide_eq_true_eq] at h4
  simp only at h2
  rw [← h4, ← h2]
  exact h3
/-- The names are different. -/
def Keys (ns : List (Nm × Bool)) : Prop := (ns.map (·.1)).Nodup
theorem lk_of {ns : List (Nm × Bool)} (hk : Keys ns) {s : Nm} {x : Bool} (h : (s, x) ∈ ns) : lk ns s = some x := by
  induction ns with
  | nil => cases h
  | cons p ns ih =>
    have hk2 := List.nodup_cons.1 (show (p.1 :: ns.map (·.1)).Nodup from hk)
    unfold lk
    rcases List.mem_cons.1 h with rfl | h
    · simp
    · have hne : p.1 ≠ s := fun e => hk2.1 (List.mem_map.2 ⟨(s, x), h, e.symm⟩)
      rw [List.find?_cons_of_neg (by simpa using hne)]
      exact ih hk2.2 h
theorem lk_some {ns : List (Nm × Bool)} (hk : Keys ns) {s : Nm} {x : Bool} : lk ns s = some x ↔ (s, x) ∈ ns := ⟨lk_mem, lk_of hk⟩
theorem conf_lk {a b : Cl} (ha : Keys a.ns) (hb : Keys b.ns) : conf a b = true ↔ ∃ s x y, lk a.ns s = some x ∧ lk b.ns s = some y ∧ (x || y) = true := by
  rw [conf_iff]
  constructor
  · rintro ⟨⟨s, x⟩, hp, ⟨s', y⟩, hq, h1, h2⟩
    simp only at h1 h2
    subst h1
    exact ⟨s, x, y, lk_of ha hp, lk_of hb hq, h2⟩
  · rintro ⟨s, x, y, h1, h2, h3⟩
    exact ⟨(s, x), lk_mem h1, (s, y), lk_mem h2, rfl, h3⟩
/-- The claim's map in memory. -/
def NsAt (w : World) (m : Cm) : Prop := NMap w Tryz.prog 9 4 m.2 1000 (lk m.1.ns) ∧ Keys m.1.ns
theorem NsAt.below {w w' : World} {m : Cm} (h : NsAt w m) (hb : Below w.heap.size w w') : NsAt w' m := ⟨h.1.below hb, h.2⟩
set_option maxRecDepth 100000 in
set_option maxHeartbeats 2000000 in
theorem clConflict (a b : Cm) (w : World) (ha : NsAt w a) (hb : NsAt w b) :
    Calls Tryz.prog 53 #[cv a, cv b] w fun e w' => e = .returned (.bool (conf a.1 b.1)) ∧ Below w.heap.size w w' := by
  have HA := Lib.hid ha
  have HB := Lib.hid hb
  have hz : ∀ w, (zeroValue 4).run Tryz.prog w = .ok (.bool false) w := fun w => by kernel_rfl
  clear ha hb
  unfold cv
  go_enter Tryz.func53, Tryz.ntmps53
  go_upto_region 1 with (fail)
  obtain ⟨w2, p, q, e1, e2, e3, hb2, h1, h2⟩ := boxes2 w 76 (ca a) (ca b)
  unfold ca at e1
  rw [e1, e3, e2]
  have HA2 := Lib.hid (HA.out.below hb2)
  have HB2 := Lib.hid (HB.out.below hb2)
  have HL := Lib.hid hb2
  have HP := Lib.hid h1
  have HQ := Lib.hid h2
  have hc1 := h1.cell 1
  simp [ca] at hc1
  clear e1 e2 e3 hb2 h1 h2
  go_wp2_with (refine wpList_nm_range rfl (.tmp 10) _ rfl Tryz.underlying74 Tryz.underlying9 rfl HA2.out.1 ?_; intro w3 cnt hr3 hg3 hs3; have HR3 := Lib.hid hr3; have HG3 := Lib.hid hg3; clear hr3 hg3)
  obtain ⟨r, hr⟩ : ∃ r, w2.heap.size = r := ⟨_, rfl⟩
  rw [hr] at HR3 ⊢
  have HRE := Lib.hid hr
  have HB3 := Lib.hid (show Below w2.heap.size w2 w3 from ⟨HG3.out.os, HG3.out.tape, HG3.out.output, HG3.out.size, fun k hk => HG3.out.block k hk (by simp)⟩)
  clear hr hc1
  simp only [Act.put, List.setIfInBounds_toArray, List.set_cons_succ, List.set_cons_zero]
  go_loopw [5] (fun _ wr => ∃ left cnt, NMapR wr Tryz.prog 9 4 a.2 r 1000 (lk a.1.ns) left cnt ∧ Below w2.heap.size w2 wr ∧ Hid (∀ s x y, left s = false → lk a.1.ns s = some x → lk b.1.ns s = some y → (x || y) = false)) (fun _ wr => wr.rangeLeft a.2 r)
  case atStart => exact ⟨_, _, HR3.out, HB3.out, fun s x y h h1 _ => by simp [h1] at h⟩
  case round =>
    obtain ⟨left, cnt, hrn, hbw, hno⟩ := hrel
    have HRN := Lib.hid hrn
    have HBW := Lib.hid hbw
    clear hrn hbw
    go_wp2_with (first | (refine wpList_nm_ok rfl (.tmp 19) (.tmp 20) _ rfl Tryz.underlying74 Tryz.underlying9 Tryz.underlying4 (hz _) rfl (HB2.out.1.below HB5.out) s HLEN.out rfl ?_; rcases hlb : lk b.1.ns s with _ | (_ | _) <;> cases x <;> have HLB := Lib.hid hlb <;> clear hlb <;> simp only [Option.getD_none, Option.getD_some, Option.isSome_none, Option.isSome_some]) | (at_next; refine wpList_nm_next rfl (.tmp 11) rfl Tryz.underlying9 Tryz.underlying4 rfl HRN.out ?_ ?_; intro hdone; have HD := Lib.hid hdone; clear hdone; rotate_left 1; intro s x w5 cnt5 hlen hls hms hr5 hc5 hg5 hz5 hen; have HR5 := Lib.hid hr5; have HLS := Lib.hid hls; have HMS := Lib.hid hms; have HLEN := Lib.hid hlen; have HC5 := Lib.hid hc5; have HB5 := Lib.hid (HBW.out.trans (show Below w2.heap.size _ w5 from ⟨hg5.os, hg5.tape, hg5.output, hg5.size, fun k hk => hg5.block k (Nat.lt_of_lt_of_le hk HBW.out.size) (by have := HRE.out; simp; omega)⟩)); have hq5 := (HQ.out.below HB5.out).cell 1; simp [ca] at hq5; clear hls hms hr5 hg5 hz5 hlen hc5))
    all_goals first
      | (go_roundw
         case rel => exact ⟨_, _, HR5.out, HB5.out, fun s' x' y' h h1 h2 => by
           by_cases e : s' = s
           · subst e
             have e1 := HMS.out.symm.trans h1
             have e2 := HLB.out.symm.trans h2
             cases e1
             first | (cases e2; done) | (cases e2; rfl)
           · exact hno.out s' x' y' (by simpa [e] using h) h1 h2⟩
         case measure => rw [HR5.out.count, HRN.out.count]; exact HC5.out)
      | (go_ret
         refine ⟨retBool ((conf_lk HA.out.2 HB.out.2).2 ⟨s, _, _, HMS.out, HLB.out, rfl⟩).symm, below_then HL.out HB5.out⟩)
      | (go_ret
         have hcf : conf a.1 b.1 = false := by
           cases hc : conf a.1 b.1 with
           | false => rfl
           | true =>
             obtain ⟨s', x', y', h1, h2, h3⟩ := (conf_lk HA.out.2 HB.out.2).1 hc
             rw [hno.out s' x' y' (HD.out s') h1 h2] at h3
             cases h3
         exact ⟨retBool hcf.symm, below_then HL.out HBW.out⟩)
end Go.Proofs.YtojbddcbnnbklaaGreatDoor
