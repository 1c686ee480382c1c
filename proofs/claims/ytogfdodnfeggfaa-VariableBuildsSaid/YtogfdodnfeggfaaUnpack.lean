/- The walk of variable.Unpack and of the closure in it: it returns the records of a block, or an error. -/
import Derived.Test.YtogfdodnfeggfaaPack
namespace Go.Proofs.Ytogfdodnfeggfaa
open Go.RowKit P11
attribute [local go_sem] ByteArray.mk_append_mk ByteArray.extract_mk mk_index

/-- What the closure leaves: the record behind the others in the captured slice. -/
def Next31 (L : Nat) (f : Bs) (B bl bo : Nat) (xs : List Bs) (w : World) (e : Ending) (w' : World) : Prop :=
  e = .returned (.tuple #[.string ⟨(fiS L f).toArray⟩, .bool (fiB L f)]) ∧ ∃ v', Blk w' bo 22 #[v'] ∧ OwnS w' B 9 v' (xs ++ [fiR L f]) ∧ Blk w' bl 3 #[.int .i64 L] ∧ Below B w w'

set_option maxHeartbeats 400000 in
theorem next31 (L : Nat) (hL : L ≤ 1000) (f : Bs) (hf : f.length ≤ 100000) (B bl bo : Nat) (v : Value) (xs : List Bs) (w : World) (hbl : Blk w bl 3 #[.int .i64 L]) (hbo : Blk w bo 22 #[v]) (hown : OwnS w B 9 v xs) (hx : xs.length ≤ 1000000) (hB : B ≤ bo) :
    Calls Try.prog 31 #[.string ⟨f.toArray⟩, .pointer (some ⟨bl, 0, none⟩), .pointer (some ⟨bo, 0, none⟩)] w (Next31 L f B bl bo xs w) := by
  have hcl : w.cell? ⟨bl, 0, none⟩ = some (.int .i64 L) := hbl.cell 0
  have HBL := Lib.hid hbl
  have HBO := Lib.hid hbo
  have hlo := hbo.lt
  clear hbl hbo
  obtain ⟨i0, hi0, hz0, hz1, hz2⟩ := info_parts info9
  have HI := Lib.hid hi0
  have HZ0 := Lib.hid hz0
  have HZ1 := Lib.hid hz1
  have HZ2 := Lib.hid hz2
  clear hi0 hz0 hz1 hz2
  go_enter Try.func31, Try.ntmps31
  go_wp2_with fail
  refine (first32 L hL f hf _).mono ?_
  rintro e w1 ⟨rfl, hb1⟩
  have hco : w1.cell? ⟨bo, 0, none⟩ = some v := (HBO.out.below hb1).cell 0
  have hsz := hb1.size
  have ho1 := (hown.below hb1).alloc (.cells #[.string ⟨(fiR L f).toArray⟩] 9)
  have hbo1 := (HBO.out.below hb1).alloc (.cells #[.string ⟨(fiR L f).toArray⟩] 9)
  have hbl1 := (HBL.out.below hb1).alloc (.cells #[.string ⟨(fiR L f).toArray⟩] 9)
  have HN1 := Lib.hid (ho1.ne_blk hbo1 (by decide))
  have HN2 := Lib.hid (ho1.ne_blk hbl1 (by decide))
  have HO1 := Lib.hid ho1
  have HBO1 := Lib.hid hbo1
  have HBL1 := Lib.hid hbl1
  clear ho1 hbo1 hbl1
  go_wp2_with (at_builtin; refine wpList_append_str rfl (.tmp 16) (.tmp 18) _ rfl B 9 i0 _ Try.underlying22 HI.out HZ0.out HZ1.out HZ2.out rfl v xs rfl HO1.out (fiR L f) ⟨w1.heap.size, 0, none⟩ 1 rfl (by simp) hx (by simp; omega) ?_; intro v3 w3 hown3 hb3 hg3 _; obtain ⟨A3, n3, c3, rfl, -, -, -⟩ := hown3.strs; have hbo3 := HBO1.out.grown hg3 (Ne.symm HN1.out); have hbl3 := HBL1.out.grown hg3 (Ne.symm HN2.out); have hc3 : w3.cell? ⟨bo, 0, none⟩ = some v := hbo3.cell 0; have hf3 := hbo3.frozen 0)
  go_ret2
  exact ⟨rfl, _, hbo3.put 0 _, hown3.setCell (hown3.ne_blk hbo3 (by decide)) _, hbl3.far (hbl3.ne hbo3 (by decide)) _, (((hb1.mono (by omega)).alloc (by omega) _).trans hb3).setCell hB _⟩

def strLen : Value → Nat
  | .string s => s.size
  | _ => 0

/-- The error of an unpacking, and its records. -/
def unErr (L K : Int) (d : Bs) : Int := if vok L K then (if (unpack L.toNat K.toNat d).isSome then 0 else 11) else 1
def unOut (L K : Int) (d : Bs) : List Bs := if vok L K then (unpack L.toNat K.toNat d).getD [] else []
theorem un_bad {L K : Int} {d : Bs} (hv : vok L K = false) : unErr L K d = 1 ∧ unOut L K d = [] := by
  unfold unErr unOut
  rw [hv]
  exact ⟨rfl, rfl⟩
theorem un_none {L K : Int} {d : Bs} (hv : vok L K = true) (h : unpack L.toNat K.toNat d = none) : unErr L K d = 11 ∧ unOut L K d = [] := by
  unfold unErr unOut
  rw [hv, h]
  exact ⟨rfl, rfl⟩
theorem un_some {L K : Int} {d : Bs} {ls : List Bs} (hv : vok L K = true) (h : unpack L.toNat K.toNat d = some ls) : unErr L K d = 0 ∧ unOut L K d = ls := by
  unfold unErr unOut
  rw [hv, h]
  exact ⟨rfl, rfl⟩

/-- What a call of Unpack leaves. -/
def Unpacked (L K : Int) (d : Bs) (w : World) (e : Ending) (w' : World) : Prop :=
  ∃ v, e = .returned (.tuple #[v, .int .i64 (unErr L K d)]) ∧ OwnS w' w.heap.size 9 v (unOut L K d) ∧ Below w.heap.size w w'
theorem Unpacked.fail {L K : Int} {d : Bs} {w w' : World} {x : Int} (h : unErr L K d = x ∧ unOut L K d = []) (hb : Below w.heap.size w w') : Unpacked L K d w (.returned (.tuple #[.slice none 0 0, .int .i64 x])) w' :=
  ⟨_, by rw [h.1], by rw [h.2]; exact OwnS.nil _ _ _, hb⟩

set_option maxHeartbeats 400000 in
theorem unpack21_bad (L K : Int) (d : Bs) (w : World) (hv : vok L K = false) : Calls Try.prog 21 #[.int .i64 L, .int .i64 K, .string ⟨d.toArray⟩] w (Unpacked L K d w) := by
  have HU := Lib.hid (un_bad (d := d) hv)
  have HV := Lib.hid hv
  clear hv
  go_enter Try.func21, Try.ntmps21
  go_wp2_with (go_at_call 14; refine (valid14 _ _ _).mono ?_; rintro e w' ⟨rfl, rfl⟩; rw [HV.out])
  go_ret2
  exact Unpacked.fail HU.out (below_alloc (Below.refl _ _) _)

theorem head_none {L K : Nat} {d : Bs} (h : d.length ≤ 4 ∨ K < d.length ∨ readWord (d.take 4) ≠ some d.length) : unpack L K d = none := by
  unfold unpack
  rw [if_pos h]
theorem head_some {L K : Nat} {d : Bs} (h1 : ¬ d.length ≤ 4) (h2 : ¬ K < d.length) (h3 : readWord (d.take 4) = some d.length) : unpack L K d = recs L (d.drop 4) := by
  unfold unpack
  rw [if_neg (by rintro (h | h | h); exact h1 h; exact h2 h; exact h h3)]

set_option maxRecDepth 100000 in
set_option maxHeartbeats 1000000 in
theorem unpack21_ok (L K : Nat) (d : Bs) (w : World) (hL : 1 ≤ L ∧ L ≤ 1000) (hK : L + 8 ≤ K ∧ K ≤ 1024) (hd : d.length ≤ 100000) : Calls Try.prog 21 #[.int .i64 L, .int .i64 K, .string ⟨d.toArray⟩] w (Unpacked L K d w) := by
  have hv : vok (L : Int) (K : Int) = true := by unfold vok; simp; omega
  have HV := Lib.hid hv
  clear hv
  by_cases h1 : d.length ≤ 4
  · have HU := Lib.hid (un_none (L := L) (K := K) (d := d) HV.out (head_none (.inl h1)))
    go_enter Try.func21, Try.ntmps21
    go_wp2_with (go_at_call 14; refine (valid14 _ _ _).mono ?_; rintro e w' ⟨rfl, rfl⟩; rw [HV.out])
    go_ret2
    exact Unpacked.fail HU.out (below_alloc (Below.refl _ _) _)
  by_cases h2 : K < d.length
  · have HU := Lib.hid (un_none (L := L) (K := K) (d := d) HV.out (head_none (.inr (.inl h2))))
    go_enter Try.func21, Try.ntmps21
    go_wp2_with (go_at_call 14; refine (valid14 _ _ _).mono ?_; rintro e w' ⟨rfl, rfl⟩; rw [HV.out])
    go_ret2
    exact Unpacked.fail HU.out (below_alloc (Below.refl _ _) _)
  by_cases h3 : readWord (d.take 4) = some d.length
  · have HU := Lib.hid (head_some (L := L) h1 h2 h3)
    have b1 := Lib.hid (show rwB (d.take 4) = true from by unfold rwB; rw [h3]; rfl)
    have b2 := Lib.hid (show rwI (d.take 4) = (d.length : Int) from by unfold rwI; rw [h3]; rfl)
    have hnn : ((d.length : Int) != (d.length : Int)) = false := by simp
    clear h3
    go_enter Try.func21, Try.ntmps21
    go_wp2_with (first | (go_at_call 14; refine (valid14 _ _ _).mono ?_; rintro e w' ⟨rfl, rfl⟩; rw [HV.out]) | (go_at_call 17; refine (readWord17 _ _).mono ?_; rintro e w1 ⟨rfl, hb1⟩; rw [b1.out, b2.out]))
    have hbx := below_alloc (below_then (below_alloc (Below.refl w.heap.size w) (.cells #[.int .i64 (L : Int)] 3)) hb1) (.cells #[.slice none 0 0] 22)
    have hbl0 := ((Blk.new w 3 #[.int .i64 (L : Int)]).below hb1).alloc (.cells #[.slice none 0 0] 22)
    have hwz : w.heap.size < w1.heap.size := by have := hb1.size; simp at this; omega
    clear hnn hb1
    go_loopw [12] (fun s wr => ∃ (f : Bs) (xs : List Bs) (v : Value), s = .string ⟨f.toArray⟩ ∧ Hid (recs L (d.drop 4) = (recs L f).map (xs ++ ·)) ∧ Blk wr w1.heap.size 22 #[v] ∧ OwnS wr w.heap.size 9 v xs ∧ Blk wr w.heap.size 3 #[.int .i64 (L : Int)] ∧ Below w.heap.size w wr ∧ xs.length + f.length ≤ 100000) (fun s _ => strLen s)
    case atStart =>
      have e0 : List.take (d.length - 4) (d.drop 4) = d.drop 4 := List.take_of_length_le (by simp)
      refine ⟨d.drop 4, [], _, strEq e0, ?_, Blk.new w1 22 #[.slice none 0 0], OwnS.nil _ _ _, hbl0, hbx, by simp; omega⟩
      show _ = _
      cases recs L (d.drop 4) <;> rfl
    case round =>
      obtain ⟨f, xs, v, rfl, hrec, hbo, hown, hbl, hbw, hlen⟩ := hrel
      by_cases hf0 : f = []
      · subst hf0
        have hco : wr.cell? ⟨w1.heap.size, 0, none⟩ = some v := hbo.cell 0
        have hu : unpack L K d = some xs := by
          rw [HU.out, hrec.out, recs_nil]
          simp
        have HU2 := Lib.hid (un_some (L := L) (K := K) (d := d) HV.out hu)
        clear hu hbo hbl
        go_wp2
        go_ret2
        exact ⟨_, by rw [HU2.out.1]; rfl, by rw [HU2.out.2]; exact hown, hbw⟩
      · have hfe : f.isEmpty = false := by simpa using hf0
        have HBO := Lib.hid hbo
        have HBL := Lib.hid hbl
        clear hbo hbl
        cases hfi : first L f with
        | none =>
          have hu : unpack L K d = none := by
            rw [HU.out, hrec.out, recs_stop hf0 hfi]
            rfl
          have HU2 := Lib.hid (un_none (L := L) (K := K) (d := d) HV.out hu)
          have B1 := Lib.hid (first_none hfi).2.2
          clear hu hfi hf0
          go_wp2_with (go_at_call 31; refine (next31 L hL.2 f (by omega) w.heap.size w.heap.size w1.heap.size v xs _ HBL.out HBO.out hown (by omega) (by omega)).mono ?_; rintro e w2 ⟨rfl, v2, hbo2, hown2, hbl2, hb2⟩; rw [B1.out])
          go_ret2
          exact Unpacked.fail HU2.out (hbw.trans hb2)
        | some x =>
          obtain ⟨r, rest⟩ := x
          have B1 := Lib.hid (show fiB L f = true from by unfold fiB; rw [hfi]; rfl)
          have B2 := Lib.hid (show fiS L f = rest from by unfold fiS; rw [hfi])
          have B3 := Lib.hid (show fiR L f = r from by unfold fiR; rw [hfi])
          have HR := Lib.hid (recs_step hf0 hfi)
          have hlt := (first_some hfi).2.2
          clear hfi hf0
          go_wp2_with (go_at_call 31; refine (next31 L hL.2 f (by omega) w.heap.size w.heap.size w1.heap.size v xs _ HBL.out HBO.out hown (by omega) (by omega)).mono ?_; rintro e w2 ⟨rfl, v2, hbo2, hown2, hbl2, hb2⟩; rw [B1.out, B2.out])
          go_roundw
          case rel =>
            refine ⟨rest, xs ++ [r], v2, rfl, ?_, hbo2, ?_, hbl2, hbw.trans hb2, by simp; omega⟩
            · show _ = _
              rw [hrec.out, HR.out]
              cases recs L rest <;> simp
            · rw [B3.out] at hown2
              exact hown2
          case measure => simpa [strLen, ByteArray.size] using hlt
  · have HU := Lib.hid (un_none (L := L) (K := K) (d := d) HV.out (head_none (.inr (.inr h3))))
    cases hrw : readWord (d.take 4) with
    | none =>
      have b1 := Lib.hid (show rwB (d.take 4) = false from by unfold rwB; rw [hrw]; rfl)
      clear hrw h3
      go_enter Try.func21, Try.ntmps21
      go_wp2_with (first | (go_at_call 14; refine (valid14 _ _ _).mono ?_; rintro e w' ⟨rfl, rfl⟩; rw [HV.out]) | (go_at_call 17; refine (readWord17 _ _).mono ?_; rintro e w1 ⟨rfl, hb1⟩; rw [b1.out]))
      go_ret2
      exact Unpacked.fail HU.out (below_then (below_alloc (Below.refl _ _) _) hb1)
    | some m =>
      have b1 := Lib.hid (show rwB (d.take 4) = true from by unfold rwB; rw [hrw]; rfl)
      have b2 := Lib.hid (show rwI (d.take 4) = (m : Int) from by unfold rwI; rw [hrw]; rfl)
      have hnn : ((m : Int) != (d.length : Int)) = true := bne_of (fun e => h3 (by rw [hrw]; congr 1; omega))
      clear hrw h3
      go_enter Try.func21, Try.ntmps21
      go_wp2_with (first | (go_at_call 14; refine (valid14 _ _ _).mono ?_; rintro e w' ⟨rfl, rfl⟩; rw [HV.out]) | (go_at_call 17; refine (readWord17 _ _).mono ?_; rintro e w1 ⟨rfl, hb1⟩; rw [b1.out, b2.out]))
      go_ret2
      exact Unpacked.fail HU.out (below_then (below_alloc (Below.refl _ _) _) hb1)

theorem unpack21 (L K : Int) (d : Bs) (w : World) (hd : d.length ≤ 100000) : Calls Try.prog 21 #[.int .i64 L, .int .i64 K, .string ⟨d.toArray⟩] w (Unpacked L K d w) := by
  by_cases hv : vok L K = true
  · obtain ⟨l, k, rfl, rfl, hl, hk⟩ := vok_nat hv
    exact unpack21_ok l k d w hl hk hd
  · exact unpack21_bad L K d w (by simpa using hv)

end Go.Proofs.Ytogfdodnfeggfaa
