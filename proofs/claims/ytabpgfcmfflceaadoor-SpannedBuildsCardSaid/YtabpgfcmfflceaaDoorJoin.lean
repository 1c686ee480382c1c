/- The walks of Join and of the reference's Join: the records of segments, or an error. -/
import Derived.Test.YtabpgfcmfflceaaDoorSegWalk
import Derived.Test.YtabpgfcmfflceaaDoorRefPut
namespace P12
/-- Joining, the greatest length any number. -/
def joinGoI (L : Int) : List Bs → Bool → List Seg → Option (List Bs)
  | out, op, [] => if op = true then none else some out
  | out, op, x :: xs =>
    if x.b ≠ op then none
    else if op = true then
      if L < (((out.getLast?.getD []) ++ x.d).length : Int) then none else joinGoI L (out.dropLast ++ [(out.getLast?.getD []) ++ x.d]) x.a xs
    else if L < (x.d.length : Int) then none else joinGoI L (out ++ [x.d]) x.a xs
def joinI (L : Int) (l : List Seg) : Option (List Bs) := joinGoI L [] false l
theorem joinGoI_nat (L : Nat) : ∀ (l : List Seg) (out : List Bs) (op : Bool), joinGoI (L : Int) out op l = joinGo L out op l := by
  intro l
  induction l with
  | nil => intro out op; rfl
  | cons x xs ih =>
    intro out op
    rw [joinGoI, joinGo, ih, ih]
    simp only [Int.ofNat_lt]
theorem joinI_nat (L : Nat) (l : List Seg) : joinI (L : Int) l = join L l := joinGoI_nat L l [] false
theorem joinGoI_ne {L : Int} {out : List Bs} {op : Bool} {x : Seg} {xs : List Seg} (h : x.b ≠ op) : joinGoI L out op (x :: xs) = none := by rw [joinGoI, if_pos h]
theorem joinGoI_new {L : Int} {out : List Bs} {x : Seg} {xs : List Seg} (h : x.b = false) : joinGoI L out false (x :: xs) = if L < (x.d.length : Int) then none else joinGoI L (out ++ [x.d]) x.a xs := by
  rw [joinGoI, if_neg (by rw [h]; simp), if_neg (by simp)]
theorem joinGoI_more {L : Int} {pre : List Bs} {p : Bs} {x : Seg} {xs : List Seg} (h : x.b = true) : joinGoI L (pre ++ [p]) true (x :: xs) = if L < ((p ++ x.d).length : Int) then none else joinGoI L (pre ++ [p ++ x.d]) x.a xs := by
  rw [joinGoI, if_neg (by rw [h]; simp), if_pos rfl]
  simp only [List.getLast?_concat, Option.getD_some, List.dropLast_concat]
end P12
namespace Go.Proofs.YtabpgfcmfflceaaDoor
open Go.RowKit P12 Go.Sort
attribute [local go_sem] ByteArray.mk_append_mk ByteArray.extract_mk mk_index

/-- The error of a joining, and its records. -/
def joErr (L : Int) (l : List Seg) : Int := if (joinI L l).isSome then 0 else 11
def joOut (L : Int) (l : List Seg) : List Bs := (joinI L l).getD []
theorem jo_none {L : Int} {l : List Seg} (h : joinI L l = none) : joErr L l = 11 ∧ joOut L l = [] := by
  unfold joErr joOut
  rw [h]
  exact ⟨rfl, rfl⟩
theorem jo_some {L : Int} {l : List Seg} {o : List Bs} (h : joinI L l = some o) : joErr L l = 0 ∧ joOut L l = o := by
  unfold joErr joOut
  rw [h]
  exact ⟨rfl, rfl⟩
def Joined (L : Int) (l : List Seg) (w : World) (en : Ending) (w' : World) : Prop :=
  ∃ v, en = .returned (.tuple #[v, .int .i64 (joErr L l)]) ∧ OwnS w' w.heap.size 9 v (joOut L l) ∧ Below w.heap.size w w'
theorem Joined.fail {L : Int} {l : List Seg} {w w' : World} {x : Int} (h : joErr L l = x ∧ joOut L l = []) (hb : Below w.heap.size w w') : Joined L l w (.returned (.tuple #[.slice none 0 0, .int .i64 x])) w' :=
  ⟨_, by rw [h.1], by rw [h.2]; exact OwnS.nil _ _ _, hb⟩
theorem drop_cons {α : Type} {l : List α} {k : Nat} {x : α} (h : l[k]? = some x) : l.drop k = x :: l.drop (k + 1) := by
  obtain ⟨hk, rfl⟩ := List.getElem?_eq_some_iff.1 h
  exact List.drop_eq_getElem_cons hk

set_option maxRecDepth 100000 in
set_option maxHeartbeats 2000000 in
theorem join25 (L : Int) (A : Option Addr) (n c : Nat) (ls : List Seg) (w : World) (h : SegsAt w A n ls) (hn : n ≤ 100000) (hd : ∀ x ∈ ls, x.d.length ≤ 100000) :
    Calls Tryd.prog 25 #[.int .i64 L, .slice A n c] w (Joined L ls w) := by
  have H := Lib.hid h
  have HD := Lib.hid hd
  have HLN := Lib.hid h.len
  clear h hd
  obtain ⟨i0, hi0, hz0, hz1, hz2⟩ := info_parts info9
  have HI := Lib.hid hi0
  have HZ0 := Lib.hid hz0
  have HZ1 := Lib.hid hz1
  have HZ2 := Lib.hid hz2
  clear hi0 hz0 hz1 hz2
  go_enter Tryd.func25, Tryd.ntmps25
  go_wp2
  go_loopw [6, 7, 12] (fun out op i wr => ∃ (k : Nat) (xs : List Bs) (o : Bool), k ≤ n ∧ i = .int .i64 k ∧ op = .bool o ∧ Hid (joinI L ls = joinGoI L xs o (ls.drop k)) ∧ Hid (o = true → xs ≠ []) ∧ OwnS wr w.heap.size 9 out xs ∧ Below w.heap.size w wr ∧ xs.length ≤ k ∧ Hid (∀ r ∈ xs, r.length ≤ 100000 * k)) (fun _ _ i _ => n - (intOf i).toNat)
  case atStart => exact ⟨0, [], false, Nat.zero_le _, rfl, rfl, rfl, (fun h => by cases h), OwnS.nil _ _ _, Below.refl _ _, by simp, (fun r hr => by cases hr)⟩
  case round =>
    obtain ⟨k, xs, o, hk, rfl, rfl, hjo, hop, hown, hbw, hxk, hxl⟩ := hrel
    have hz := hbw.size
    by_cases hlt : k < n
    · obtain ⟨b, off, s, rfl, hs, m0, m1, m2⟩ := (H.out.below hbw).at_ hlt
      have hdr := drop_cons hs
      have hsd := HD.out s (List.mem_of_getElem? hs)
      have hbl := World.block_lt_of_cell? wr _ m0
      obtain ⟨sb, sa, sd⟩ := s
      dsimp only at m0 m1 m2 hsd
      by_cases hb : sb = o
      · subst hb
        cases sb
        case false =>
          have hj2 : joinI L ls = if L < (sd.length : Int) then none else joinGoI L (xs ++ [sd]) sa (ls.drop (k + 1)) := by rw [hjo.out, hdr]; exact joinGoI_new rfl
          have HJ2 := Lib.hid hj2
          have HO := Lib.hid ((hown.alloc (.cells #[.bool false, .bool sa, .string ⟨sd.toArray⟩] 43)).alloc (.cells #[.string ⟨sd.toArray⟩] 9))
          have HB := Lib.hid ((hbw.alloc hz (.cells #[.bool false, .bool sa, .string ⟨sd.toArray⟩] 43)).alloc (by simp; omega) (.cells #[.string ⟨sd.toArray⟩] 9))
          have HC := Lib.hid (show ((wr.alloc (.cells #[.bool false, .bool sa, .string ⟨sd.toArray⟩] 43)).alloc (.cells #[.string ⟨sd.toArray⟩] 9)).cell? ⟨wr.heap.size + 1, 0, none⟩ = some (.string ⟨sd.toArray⟩) from by simp)
          have HBL := Lib.hid ((Blk.new wr 43 #[.bool false, .bool sa, .string ⟨sd.toArray⟩]).alloc (.cells #[.string ⟨sd.toArray⟩] 9))
          have hxk2 : xs.length ≤ 100000 := by omega
          clear hs hdr hj2 hown hbw
          by_cases hgt : L < (sd.length : Int)
          · have HJ3 := Lib.hid (jo_none (show joinI L ls = none by rw [HJ2.out, if_pos hgt]))
            go_wp2_with (at_builtin; refine wpList_append_str rfl (.tmp 31) (.tmp 34) _ rfl w.heap.size 9 i0 _ Tryd.underlying22 HI.out HZ0.out HZ1.out HZ2.out rfl u6 xs rfl HO.out sd ⟨wr.heap.size + 1, 0, none⟩ 1 rfl HC.out (by omega) HB.out.size ?_; intro v5 w5 hown5 hb5 hg5 _; obtain ⟨g5, c5, rfl, hg5', hcell5, -, hm5⟩ := hown5.row (by simp); have hcc := hcell5 xs.length sd (by simp); rw [show (xs ++ [sd]).length = xs.length + 1 from by simp] at hown5 ⊢; have hmm := HBL.out.grown hg5 (Ne.symm (HO.out.ne_blk HBL.out (by decide))); have mm1 : w5.cell? ⟨wr.heap.size, 1, none⟩ = some (.bool sa) := hmm.cell 1; have HO5 := Lib.hid hown5; have HB5 := Lib.hid (HB.out.trans hb5); clear hown5 hcell5 hb5 hg5 hmm)
            go_ret2
            exact Joined.fail HJ3.out HB5.out
          · have HJ3 := Lib.hid (show joinI L ls = joinGoI L (xs ++ [sd]) sa (ls.drop (k + 1)) by rw [HJ2.out, if_neg hgt])
            have HXL := Lib.hid (show ∀ r ∈ xs ++ [sd], r.length ≤ 100000 * (k + 1) from fun r hr => by
              rcases List.mem_append.1 hr with hr | hr
              · have := hxl.out r hr; omega
              · simp at hr; subst hr; omega)
            go_wp2_with (at_builtin; refine wpList_append_str rfl (.tmp 31) (.tmp 34) _ rfl w.heap.size 9 i0 _ Tryd.underlying22 HI.out HZ0.out HZ1.out HZ2.out rfl u6 xs rfl HO.out sd ⟨wr.heap.size + 1, 0, none⟩ 1 rfl HC.out (by omega) HB.out.size ?_; intro v5 w5 hown5 hb5 hg5 _; obtain ⟨g5, c5, rfl, hg5', hcell5, -, hm5⟩ := hown5.row (by simp); have hcc := hcell5 xs.length sd (by simp); rw [show (xs ++ [sd]).length = xs.length + 1 from by simp] at hown5 ⊢; have hmm := HBL.out.grown hg5 (Ne.symm (HO.out.ne_blk HBL.out (by decide))); have mm1 : w5.cell? ⟨wr.heap.size, 1, none⟩ = some (.bool sa) := hmm.cell 1; have HO5 := Lib.hid hown5; have HB5 := Lib.hid (HB.out.trans hb5); clear hown5 hcell5 hb5 hg5 hmm)
            go_roundw
            case rel => exact ⟨k + 1, xs ++ [sd], sa, by omega, by go_num, rfl, HJ3.out, (fun _ => by simp), HO5.out, HB5.out, by simp; omega, HXL.out⟩
            case measure => simp [intOf]; omega
        case true =>
          obtain ⟨pre, p, rfl⟩ : ∃ pre p, xs = pre ++ [p] := ⟨xs.dropLast, xs.getLast (hop.out rfl), (List.dropLast_concat_getLast _).symm⟩
          have hj2 : joinI L ls = if L < ((p ++ sd).length : Int) then none else joinGoI L (pre ++ [p ++ sd]) sa (ls.drop (k + 1)) := by rw [hjo.out, hdr]; exact joinGoI_more rfl
          have HJ2 := Lib.hid hj2
          have hpl := hxl.out p (by simp)
          obtain ⟨g, c6, rfl, hg, hcells, hfz, -⟩ := hown.row (by simp)
          have hcc : wr.cell? ⟨g, pre.length, none⟩ = some (.string ⟨p.toArray⟩) := hcells _ _ (by simp)
          have HFZ := hfz pre.length
          have hgl := World.block_lt_of_cell? wr _ hcc
          rw [show (pre ++ [p]).length = pre.length + 1 from by simp] at hown hxk ⊢
          have HS := Lib.hid (show OwnS (((wr.setCell ⟨g, pre.length, none⟩ (.string ⟨(p ++ sd).toArray⟩)).alloc (.cells #[.bool true, .bool sa, .string ⟨sd.toArray⟩] 43)).drew) w.heap.size 9 (.slice (some ⟨g, 0, none⟩) (pre.length + 1) c6) (pre ++ [p ++ sd]) from by
            have hs := hown.stored (by simp) pre.length (p ++ sd)
            rw [set_last] at hs
            exact (hs.alloc _).drew)
          have HB5 := Lib.hid (((hbw.setCell (p := ⟨g, pre.length, none⟩) hg (.string ⟨(p ++ sd).toArray⟩)).alloc (by simp; omega) (.cells #[.bool true, .bool sa, .string ⟨sd.toArray⟩] 43)).drew)
          have hp1 : (pre.length : Int) < (pre.length : Int) + 1 := by omega
          have hq : p.length + sd.length ≤ 20000000000 := by omega
          clear hs hdr hj2 hown hbw hcells hfz
          by_cases hgt : L < ((p ++ sd).length : Int)
          · have HJ3 := Lib.hid (jo_none (show joinI L ls = none by rw [HJ2.out, if_pos hgt]))
            rw [List.length_append] at hgt
            go_wp2
            go_region
            go_wp2
            go_ret2
            exact Joined.fail HJ3.out HB5.out
          · have HJ3 := Lib.hid (show joinI L ls = joinGoI L (pre ++ [p ++ sd]) sa (ls.drop (k + 1)) by rw [HJ2.out, if_neg hgt])
            have HXL := Lib.hid (show ∀ r ∈ pre ++ [p ++ sd], r.length ≤ 100000 * (k + 1) from fun r hr => by
              rcases List.mem_append.1 hr with hr | hr
              · have := hxl.out r (by simp [hr]); omega
              · simp only [List.mem_singleton] at hr; subst hr; rw [List.length_append]; omega)
            rw [List.length_append] at hgt
            go_wp2
            go_region
            go_wp2
            go_roundw
            case rel => exact ⟨k + 1, pre ++ [p ++ sd], sa, by omega, by go_num, rfl, HJ3.out, (fun _ => by simp), HS.out, HB5.out, by simp; omega, HXL.out⟩
            case measure => simp [intOf]; omega
      · have HJ3 := Lib.hid (jo_none (show joinI L ls = none by rw [hjo.out, hdr]; exact joinGoI_ne hb))
        have hbe : (sb != o) = true := by simpa using hb
        have HB := Lib.hid (hbw.alloc hz (.cells #[.bool sb, .bool sa, .string ⟨sd.toArray⟩] 43))
        clear hs hdr hb hbw
        cases sb <;> cases o <;> first | (exfalso; revert hbe; decide) | skip
        all_goals
          go_wp2
          go_ret2
          exact Joined.fail HJ3.out HB.out
    · have hkn : k = n := by omega
      subst hkn
      have hdr : ls.drop k = [] := List.drop_of_length_le (by rw [HLN.out]; exact Nat.le_refl _)
      cases o
      · have HJ3 := Lib.hid (jo_some (show joinI L ls = some xs by rw [hjo.out, hdr]; rfl))
        clear hdr
        go_wp2
        go_ret2
        exact ⟨_, by rw [HJ3.out.1]; rfl, by rw [HJ3.out.2]; exact hown, hbw⟩
      · have HJ3 := Lib.hid (jo_none (show joinI L ls = none by rw [hjo.out, hdr]; rfl))
        clear hdr
        go_wp2
        go_ret2
        exact Joined.fail HJ3.out hbw
end Go.Proofs.YtabpgfcmfflceaaDoor
