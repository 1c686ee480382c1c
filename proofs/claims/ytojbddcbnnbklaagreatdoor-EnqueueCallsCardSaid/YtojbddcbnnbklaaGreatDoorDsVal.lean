/- dsname.Valid: a name is valid, split at its points. -/
import Derived.Test.YtojbddcbnnbklaaGreatDoorDsn
import Derived.Test.YtojbddcbnnbklaaGreatDoorDsPlain
namespace Go.Proofs.YtojbddcbnnbklaaGreatDoor
open Go.RowKit
attribute [local go_sem] ByteArray.mk_append_mk ByteArray.extract_mk mk_index

def pieces (l : List UInt8) : List ByteArray := Lib.splitB ⟨#[46]⟩ 0 (Lib.countB ⟨l.toArray⟩ ⟨#[46]⟩) ⟨l.toArray⟩
/-- The library's own variable holds a number. -/
def GlobM (w : World) : Prop := 0 < w.heap.size ∧ ∃ m, w.cell? ⟨0, 0, none⟩ = some (.int .i64 m)
theorem GlobM.below {w w' : World} (h : GlobM w) (hb : Below w.heap.size w w') : GlobM w' := by
  obtain ⟨h0, m, hm⟩ := h
  exact ⟨Nat.lt_of_lt_of_le h0 hb.size, m, (hb.cell (p := ⟨0, 0, none⟩) h0).trans hm⟩
def validB (l : List UInt8) : Bool := decide (1 ≤ l.length) && decide (l.length ≤ 31) && (pieces l).all fun q => qualB q.data.toList
theorem splitB_size (sep : ByteArray) : ∀ (k : Nat) (s q : ByteArray), q ∈ Lib.splitB sep 0 k s → q.size ≤ s.size
  | 0, s, q, h => by
    rw [Lib.splitB_zero, List.mem_singleton] at h
    subst h
    exact Nat.le_refl _
  | k + 1, s, q, h => by
    rw [Lib.splitB] at h
    split at h
    · rw [List.mem_singleton] at h
      subst h
      exact Nat.le_refl _
    · rcases List.mem_cons.1 h with rfl | h
      · rw [ByteArray.size_extract]; omega
      · refine Nat.le_trans (splitB_size sep k _ q h) ?_
        rw [ByteArray.size_extract]; omega
theorem piece_len {l : List UInt8} {q : ByteArray} (h : q ∈ pieces l) : q.data.toList.length ≤ l.length := splitB_size _ _ _ _ h
theorem pieces_len (l : List UInt8) : (pieces l).length = Lib.countB ⟨l.toArray⟩ ⟨#[46]⟩ + 1 := Lib.splitB_all ⟨#[46]⟩ (by decide) 0 _ ⟨l.toArray⟩ rfl
theorem pieces_le (l : List UInt8) : (pieces l).length ≤ l.length + 1 := by
  rw [pieces_len]
  have h := Lib.countB_le ⟨#[46]⟩ (by decide) (ByteArray.size ⟨l.toArray⟩) ⟨l.toArray⟩ (Nat.le_refl _)
  have e : ByteArray.size ⟨l.toArray⟩ = l.length := rfl
  rw [e] at h
  omega
theorem dsSplit (l : List UInt8) (w : World) (hl : l.length ≤ 1000000) (hG : GlobM w) :
    Calls Tryz.prog 73 #[.string ⟨l.toArray⟩, .string ⟨#[46]⟩] w fun e w' => ∃ g, e = .returned (.slice (some ⟨g, 0, none⟩) (pieces l).length (pieces l).length) ∧ Below w.heap.size w w' ∧ Blk w' g 9 ((pieces l).map Value.string).toArray := by
  obtain ⟨h0, m, hm⟩ := hG
  refine (Any.strings_Split { Tryz.laysM146 with } Tryz.laysM146.i9 ⟨l.toArray⟩ ⟨#[46]⟩ m w (by show l.length < _; omega) hm (by decide)).mono ?_
  rintro e w' ⟨rfl, rfl⟩
  rw [pieces_len]
  exact ⟨_, rfl, below_alloc (Below.refl _ _) _, Blk.new _ _ _⟩
set_option maxRecDepth 100000 in
set_option maxHeartbeats 2000000 in
theorem dsAll (l : List UInt8) (w : World) (hl : l.length ≤ 1000000) (hG : GlobM w) :
    Calls Tryz.prog 54 #[.string ⟨l.toArray⟩, .int .i64 31, .func (.func 55) #[] #[]] w fun e w' => e = .returned (.bool (validB l)) ∧ Below w.heap.size w w' := by
  have HS := Lib.hid (dsSplit l w hl hG)
  have hle := pieces_le l
  clear hG
  go_enter Tryz.func54, Tryz.ntmps54
  by_cases h1 : l.length < 1
  · have h1' : (l.length : Int) < 1 := by omega
    go_wp2
    go_ret
    exact ⟨by have e : l.length = 0 := by omega
              simp [validB, e], Below.refl _ _⟩
  · by_cases h2 : 31 < l.length
    · have h1' : ¬ (l.length : Int) < 1 := by omega
      have h2' : (31 : Int) < (l.length : Int) := by omega
      go_wp2
      go_ret
      exact ⟨by have e : ¬ l.length ≤ 31 := by omega
                simp [validB, e], Below.refl _ _⟩
    · have h1' : ¬ (l.length : Int) < 1 := by omega
      have h2' : ¬ (31 : Int) < (l.length : Int) := by omega
      go_wp2_with (go_at_call 73; refine HS.out.mono ?_; rintro e w1 ⟨g, rfl, hb, hB⟩; have HB := Lib.hid hb; have HP := Lib.hid hB; clear hb hB)
      have HV := Lib.hid (show validB l = (pieces l).all fun q => qualB q.data.toList from by
        have e1 : 1 ≤ l.length := by omega
        have e2 : l.length ≤ 31 := by omega
        simp [validB, e1, e2])
      obtain ⟨ps, hps⟩ : ∃ ps, pieces l = ps := ⟨_, rfl⟩
      have HQ := Lib.hid (show ∀ q ∈ ps, q.data.toList.length ≤ 1000000 from fun q hq => Nat.le_trans (piece_len (l := l) (by rw [hps]; exact hq)) hl)
      rw [hps] at HP HV hle ⊢
      obtain ⟨n, hn⟩ : ∃ n, ps.length = n := ⟨_, rfl⟩
      have HN := Lib.hid hn
      have hn1 : n ≤ 1000001 := by omega
      rw [hn]
      clear hps hle hn HS
      go_loopw [21] (fun i wr => ∃ j : Nat, j ≤ n ∧ i = .int .i64 j ∧ wr = w1 ∧ ((ps.take j).all fun q => qualB q.data.toList) = true) (fun i _ => n - (intOf i).toNat)
      case atStart => exact ⟨0, Nat.zero_le _, rfl, rfl, by simp⟩
      case round =>
        obtain ⟨j, hj, rfl, rfl, hall⟩ := hrel
        by_cases hlt : j < n
        · have hlt' : j < ps.length := by rw [HN.out]; exact hlt
          obtain ⟨q, hq⟩ : ∃ q, ps[j]? = some q := ⟨_, List.getElem?_eq_getElem hlt'⟩
          have HALL := Lib.hid (all_take (fun q : ByteArray => qualB q.data.toList) hq)
          have hqm := List.mem_of_getElem? hq
          have HA := Lib.hid hall
          have hcq := HP.out.cell j
          rw [List.getElem?_toArray, List.getElem?_map, hq] at hcq
          simp only [Option.map_some] at hcq
          have HC1 := Lib.hid (dsVal1 q.data.toList wr (HQ.out q hqm))
          have hnp : qualB q.data.toList = false → ps.all (fun q => qualB q.data.toList) = false := fun h => by
            rw [List.all_eq_false]
            exact ⟨q, hqm, by simp [h]⟩
          have HNP := Lib.hid hnp
          have hj1 : (j : Int) < (n : Int) := by omega
          have hj2 : (0 : Int) ≤ (j : Int) := by omega
          clear hall hq hqm hnp hlt'
          obtain ⟨c, hc⟩ : ∃ c, qualB q.data.toList = c := ⟨_, rfl⟩
          cases c with
          | false =>
            rw [hc] at HC1
            go_wp2_with (go_at_call 55; refine HC1.out.mono ?_; rintro e w' ⟨rfl, rfl⟩)
            go_ret
            exact ⟨retBool (by rw [HV.out, HNP.out hc]), HB.out⟩
          | true =>
            rw [hc] at HC1
            go_wp2_with (go_at_call 55; refine HC1.out.mono ?_; rintro e w' ⟨rfl, rfl⟩)
            go_roundw
            case rel => exact ⟨j + 1, hlt, by simp, trivial, by rw [HALL.out, HA.out, hc]; rfl⟩
            case measure => dsimp only [intOf]; omega
        · have hjn : j = n := by omega
          have hj1 : ¬ (j : Int) < (n : Int) := by omega
          have HA := Lib.hid hall
          clear hall
          go_wp2
          go_ret
          refine ⟨retBool ?_, HB.out⟩
          have h := HA.out
          rw [hjn, ← HN.out, List.take_length] at h
          rw [HV.out, h]
theorem dsValid (l : List UInt8) (w : World) (hl : l.length ≤ 1000000) (hG : GlobM w) :
    Calls Tryz.prog 38 #[.string ⟨l.toArray⟩] w fun e w' => e = .returned (.bool (validB l)) ∧ Below w.heap.size w w' := by
  have HA := Lib.hid (dsAll l w hl hG)
  clear hG
  go_enter Tryz.func38, Tryz.ntmps38
  go_wp2_with (go_at_call 54; refine HA.out.mono ?_; rintro e w' ⟨rfl, hb⟩; have HB := Lib.hid hb; clear hb)
  go_ret
  exact ⟨rfl, HB.out⟩
end Go.Proofs.YtojbddcbnnbklaaGreatDoor
