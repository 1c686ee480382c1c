/- The walk of Segments: the segments of a block, or an error. -/
import Derived.Test.YtabpgfcmfflceaaDoorPack
import Derived.Deep.DeepCutAuto
namespace P12
/-- What stands at the head of forms of four bytes or more. -/
def headBad (L : Nat) (a b c e : UInt8) (tl : Bs) : Prop := 3 < c ∨ e ≠ 0 ∨ 256 * a.toNat + b.toNat < 4 ∨ tl.length + 4 < 256 * a.toNat + b.toNat ∨ L < 256 * a.toNat + b.toNat - 4 ∨ (256 * a.toNat + b.toNat = 4 ∧ c ≠ 0)
theorem head_bad {L : Nat} {a b c e : UInt8} {tl : Bs} (h : headBad L a b c e tl) : head L (a :: b :: c :: e :: tl) = none := by
  unfold headBad at h
  rw [head, if_pos h]
theorem head_good {L N : Nat} {a b c e : UInt8} {tl : Bs} (h : ¬ headBad L a b c e tl) (hN : 256 * a.toNat + b.toNat = N) : head L (a :: b :: c :: e :: tl) = some (⟨decide (2 ≤ c), decide (c % 2 = 1), tl.take (N - 4)⟩, tl.drop (N - 4)) := by
  subst hN
  unfold headBad at h
  rw [head, if_neg h]
end P12
namespace Go.Proofs.YtabpgfcmfflceaaDoor
open Go.RowKit P12 Go.Sort
attribute [local go_sem] ByteArray.mk_append_mk ByteArray.extract_mk mk_index

/-- The error of a block's segments, and the segments. -/
def segErr (L K : Int) (d : Bs) : Int := if vok L K then (if (segs L.toNat K.toNat d).isSome then 0 else 11) else 1
def segOut (L K : Int) (d : Bs) : List Seg := if vok L K then (segs L.toNat K.toNat d).getD [] else []
theorem seg_bad {L K : Int} {d : Bs} (hv : vok L K = false) : segErr L K d = 1 ∧ segOut L K d = [] := by
  unfold segErr segOut
  rw [hv]
  exact ⟨rfl, rfl⟩
theorem seg_none {L K : Nat} {d : Bs} (hv : vok (L : Int) (K : Int) = true) (h : segs L K d = none) : segErr L K d = 11 ∧ segOut L K d = [] := by
  unfold segErr segOut
  rw [hv, show (L : Int).toNat = L from rfl, show (K : Int).toNat = K from rfl, h]
  exact ⟨rfl, rfl⟩
theorem seg_some {L K : Nat} {d : Bs} {ls : List Seg} (hv : vok (L : Int) (K : Int) = true) (h : segs L K d = some ls) : segErr L K d = 0 ∧ segOut L K d = ls := by
  unfold segErr segOut
  rw [hv, show (L : Int).toNat = L from rfl, show (K : Int).toNat = K from rfl, h]
  exact ⟨rfl, rfl⟩

/-- What a call of Segments leaves, its segments of type e. -/
def Segged (e : TypeId) (L K : Int) (d : Bs) (w : World) (en : Ending) (w' : World) : Prop :=
  ∃ v, en = .returned (.tuple #[v, .int .i64 (segErr L K d)]) ∧ OwnG w' w.heap.size e v (segOut L K d) ∧ Below w.heap.size w w'
theorem Segged.fail {e : TypeId} {L K : Int} {d : Bs} {w w' : World} {x : Int} (h : segErr L K d = x ∧ segOut L K d = []) (hb : Below w.heap.size w w') : Segged e L K d w (.returned (.tuple #[.slice none 0 0, .int .i64 x])) w' :=
  ⟨_, by rw [h.1], by rw [h.2]; exact OwnG.nil _ _ _, hb⟩

theorem segs_none {L K : Nat} {d : Bs} (h : d.length < 8 ∨ K < d.length ∨ readWord (d.take 4) ≠ some d.length) : segs L K d = none := by rw [segs_eq, if_pos h]
theorem segs_go {L K : Nat} {d : Bs} (h1 : ¬ d.length < 8) (h2 : ¬ K < d.length) (h3 : readWord (d.take 4) = some d.length) : segs L K d = recs L (decide (d.length = K)) true (d.drop 4) := by
  rw [segs_eq, if_neg (by rintro (h | h | h); exact h1 h; exact h2 h; exact h h3)]
theorem map_none {α β : Type} {f : α → β} : Option.map f none = none := rfl

set_option maxHeartbeats 400000 in
theorem segs18_bad (L K : Int) (d : Bs) (w : World) (hv : vok L K = false) : Calls Tryd.prog 18 #[.int .i64 L, .int .i64 K, .string ⟨d.toArray⟩] w (Segged 43 L K d w) := by
  have HU := Lib.hid (seg_bad (d := d) hv)
  have HV := Lib.hid hv
  clear hv
  go_enter Tryd.func18, Tryd.ntmps18
  go_wp2_with (go_at_call 15; refine (valid15 _ _ _).mono ?_; rintro e w' ⟨rfl, rfl⟩; rw [HV.out])
  go_ret2
  exact Segged.fail HU.out (Below.refl _ _)

theorem info43 : (Tryd.prog.info? 43).map (fun i => (i.zero, i.size, i.bytes)) = some (some (.agg #[.bool false, .bool false, .string ⟨#[]⟩]), 3, 24) := by kernel_rfl

theorem codes_at {w : World} (C : Codes w) {c : UInt8} {bb aa : Bool} (hc : (c.toNat : Int) ≤ 3) (hb : bb = decide (2 ≤ c)) (ha : aa = decide (c % 2 = 1)) :
    ∀ j u, (#[.bool bb, .bool aa] : Array Value)[j]? = some u → w.cell? ((⟨0, c.toNat * 2, none⟩ : Addr).add j) = some u := by
  intro j u hj
  rw [Addr.add_lit]
  have h4 : c = 0 ∨ c = 1 ∨ c = 2 ∨ c = 3 := by
    have : c.toNat = 0 ∨ c.toNat = 1 ∨ c.toNat = 2 ∨ c.toNat = 3 := by omega
    rcases this with h | h | h | h
    · exact .inl (UInt8.toNat_inj.1 h)
    · exact .inr (.inl (UInt8.toNat_inj.1 h))
    · exact .inr (.inr (.inl (UInt8.toNat_inj.1 h)))
    · exact .inr (.inr (.inr (UInt8.toNat_inj.1 h)))
  have hj2 : j < 2 := (Array.getElem?_eq_some_iff.1 hj).1
  subst hb ha
  rcases h4 with rfl | rfl | rfl | rfl
  all_goals
    match j, hj2 with
    | 0, _ => simp at hj; subst hj; first | exact C.c0 | exact C.c2 | exact C.c4 | exact C.c6
    | 1, _ => simp at hj; subst hj; first | exact C.c1 | exact C.c3 | exact C.c5 | exact C.c7

/-- Whether a segment stands where it may not. -/
def tB (bb aa : Bool) (xs : List Seg) (rs d : Bs) (K : Nat) : Bool := (bb && !xs.isEmpty) || (aa && (!rs.isEmpty || decide (d.length ≠ K)))

def strLen : Value → Nat
  | .string s => s.size
  | _ => 0

set_option maxRecDepth 100000 in
set_option maxHeartbeats 2000000 in
theorem segs18_ok (L K : Nat) (d : Bs) (w : World) (C : Codes w) (hL : 1 ≤ L ∧ L ≤ 1000) (hK : 9 ≤ K ∧ K ≤ 1024) (hd : d.length ≤ 100000) : Calls Tryd.prog 18 #[.int .i64 L, .int .i64 K, .string ⟨d.toArray⟩] w (Segged 43 L K d w) := by
  have HV := Lib.hid (nat_vok hL hK)
  obtain ⟨i0, hi0, hz0, hz1, hz2⟩ := info_parts info43
  have HI := Lib.hid hi0
  have HZ0 := Lib.hid hz0
  have HZ1 := Lib.hid hz1
  have HZ2 := Lib.hid hz2
  clear hi0 hz0 hz1 hz2
  by_cases h1 : d.length < 8
  · have HU := Lib.hid (seg_none (L := L) (K := K) HV.out (segs_none (.inl h1)))
    go_enter Tryd.func18, Tryd.ntmps18
    go_wp2_with (go_at_call 15; refine (valid15 _ _ _).mono ?_; rintro e w' ⟨rfl, rfl⟩; rw [HV.out])
    go_ret2
    exact Segged.fail HU.out (Below.refl _ _)
  by_cases h2 : K < d.length
  · have HU := Lib.hid (seg_none (L := L) (K := K) HV.out (segs_none (.inr (.inl h2))))
    go_enter Tryd.func18, Tryd.ntmps18
    go_wp2_with (go_at_call 15; refine (valid15 _ _ _).mono ?_; rintro e w' ⟨rfl, rfl⟩; rw [HV.out])
    go_ret2
    exact Segged.fail HU.out (Below.refl _ _)
  by_cases h3 : readWord (d.take 4) = some d.length
  · have HU := Lib.hid (segs_go (L := L) h1 h2 h3)
    have b1 := Lib.hid (show rwB (d.take 4) = true from by unfold rwB; rw [h3]; rfl)
    have b2 := Lib.hid (show rwI (d.take 4) = (d.length : Int) from by unfold rwI; rw [h3]; rfl)
    have hnn : ((d.length : Int) != (d.length : Int)) = false := by simp
    clear h3
    go_enter Tryd.func18, Tryd.ntmps18
    go_wp2_with (first | (go_at_call 15; refine (valid15 _ _ _).mono ?_; rintro e w' ⟨rfl, rfl⟩; rw [HV.out]) | (go_at_call 33; refine (readWord33 _ _).mono ?_; rintro e w1 ⟨rfl, hb1⟩; rw [b1.out, b2.out]))
    clear hnn
    go_loopw [10, 11] (fun out s wr => ∃ (f : Bs) (xs : List Seg), s = .string ⟨f.toArray⟩ ∧ Hid (segs L K d = (recs L (decide (d.length = K)) xs.isEmpty f).map (xs ++ ·)) ∧ OwnG wr w.heap.size 43 out xs ∧ Below w.heap.size w wr ∧ xs.length + f.length ≤ 100000) (fun _ s _ => strLen s)
    case atStart =>
      have e0 : List.take (d.length - 4) (d.drop 4) = d.drop 4 := List.take_of_length_le (by simp)
      refine ⟨d.drop 4, [], strEq e0, ?_, OwnG.nil _ _ _, hb1, by simp; omega⟩
      show segs L K d = (recs L (decide (d.length = K)) true (d.drop 4)).map ([] ++ ·)
      rw [HU.out]
      cases recs L (decide (d.length = K)) true (d.drop 4) <;> simp
    case round =>
      obtain ⟨f, xs, rfl, hrec, hown, hbw, hlen⟩ := hrel
      obtain ⟨A10, c10, rfl, -, hm10⟩ := hown.cells
      unfold maxLen at hm10
      by_cases hf0 : f = []
      · subst hf0
        have hu : segs L K d = some xs := by
          rw [hrec.out, recs_nil]
          simp
        have HU2 := Lib.hid (seg_some HV.out hu)
        clear hu
        go_wp2
        go_ret2
        exact ⟨_, by rw [HU2.out.1]; rfl, by rw [HU2.out.2]; exact hown, hbw⟩
      · have hfe : f.isEmpty = false := by simpa using hf0
        have fail_ : head L f = none → segs L K d = none := fun h => by rw [hrec.out, recs_stop hf0 h]; rfl
        by_cases h4 : f.length < 4
        · have HU2 := Lib.hid (seg_none HV.out (fail_ (head_short h4)))
          clear fail_ hf0
          go_wp2
          go_ret2
          exact Segged.fail HU2.out hbw
        · obtain ⟨a, b, c, e, tl, rfl⟩ : ∃ a b c e tl, f = a :: b :: c :: e :: tl := by
            match f, h4 with
            | a :: b :: c :: e :: tl, _ => exact ⟨a, b, c, e, tl, rfl⟩
            | [], h => simp at h
            | [_], h => simp at h
            | [_, _], h => simp at h
            | [_, _, _], h => simp at h
          have ha := a.toNat_lt
          have hb := b.toNat_lt
          obtain ⟨N, hN⟩ : ∃ N : Nat, 256 * a.toNat + b.toNat = N := ⟨_, rfl⟩
          have HN := Lib.hid (show 256 * (a.toNat : Int) + b.toNat = (N : Int) from by omega)
          have hNb : N ≤ 65535 := by omega
          clear h4
          simp only [List.length_cons] at hlen
          by_cases hc3 : 3 < c
          · have HU2 := Lib.hid (seg_none HV.out (fail_ (head_bad (.inl hc3))))
            have hcI : (3 : Int) < (c.toNat : Int) := by have := UInt8.lt_iff_toNat_lt.1 hc3; simp at this; omega
            clear hc3
            clear fail_ hf0
            go_wp2
            go_ret2
            exact Segged.fail HU2.out hbw
          have hcI : (c.toNat : Int) ≤ 3 := by
            have := hc3
            rw [UInt8.lt_iff_toNat_lt] at this
            simp at this
            omega
          by_cases he0 : e = 0
          · subst he0
            by_cases hN4 : N < 4
            · have HU2 := Lib.hid (seg_none HV.out (fail_ (head_bad (.inr (.inr (.inl (by omega)))))))
              clear hN
              clear fail_ hf0
              go_wp2
              go_quiet (fail)
              rw [or_bytes a b, HN.out]
              go_wp2
              go_ret2
              exact Segged.fail HU2.out (below_drewN hbw _)
            by_cases hNl : tl.length + 4 < N
            · have HU2 := Lib.hid (seg_none HV.out (fail_ (head_bad (.inr (.inr (.inr (.inl (by omega))))))))
              clear hN
              clear fail_ hf0
              go_wp2
              go_quiet (fail)
              rw [or_bytes a b, HN.out]
              go_wp2
              go_ret2
              exact Segged.fail HU2.out (below_drewN hbw _)
            by_cases hNL : L < N - 4
            · have HU2 := Lib.hid (seg_none HV.out (fail_ (head_bad (.inr (.inr (.inr (.inr (.inl (by omega)))))))))
              clear hN
              clear fail_ hf0
              go_wp2
              go_quiet (fail)
              rw [or_bytes a b, HN.out]
              go_wp2
              go_ret2
              exact Segged.fail HU2.out (below_drewN hbw _)
            by_cases hNc : N = 4 ∧ c ≠ 0
            · have HU2 := Lib.hid (seg_none HV.out (fail_ (head_bad (.inr (.inr (.inr (.inr (.inr ⟨by omega, hNc.2⟩))))))))
              have hcn := byte_ne hNc.2
              obtain rfl : N = 4 := hNc.1
              clear hN hNc hc3
              clear fail_ hf0
              go_wp2
              go_quiet (fail)
              rw [or_bytes a b, HN.out]
              go_wp2
              go_ret2
              exact Segged.fail HU2.out (below_drewN hbw _)
            · obtain ⟨bb, hbb⟩ : ∃ bb : Bool, bb = decide (2 ≤ c) := ⟨_, rfl⟩
              obtain ⟨aa, haa⟩ : ∃ aa : Bool, aa = decide (c % 2 = 1) := ⟨_, rfl⟩
              have hgood := head_good (L := L) (a := a) (b := b) (c := c) (e := 0) (tl := tl) (by rintro (h | h | h | h | h | ⟨h, h'⟩); exact hc3 h; exact h rfl; omega; omega; omega; exact hNc ⟨by omega, h'⟩) hN
              rw [← hbb, ← haa] at hgood
              have HST := Lib.hid (recs_step (full := decide (d.length = K)) (fst := xs.isEmpty) hf0 hgood)
              have HCL := Lib.hid (codes_at (C.below hbw) hcI hbb haa)
              have HNC := Lib.hid hNc
              have c0 : wr.cell? ⟨0, c.toNat * 2, none⟩ = some (.bool bb) := by have := HCL.out 0 (.bool bb) rfl; rw [Addr.add_lit] at this; exact this
              have c1 : wr.cell? ⟨0, c.toNat * 2 + 1, none⟩ = some (.bool aa) := by have := HCL.out 1 (.bool aa) rfl; rw [Addr.add_lit] at this; exact this
              have hN4' : 4 ≤ N := by omega
              have hNl' : N ≤ tl.length + 4 := by omega
              have hNL' : N - 4 ≤ L := by omega
              clear hN fail_ hc3 hgood hbb haa hNc hf0 hN4 hNl hNL
              go_wp2
              go_quiet (fail)
              rw [or_bytes a b, HN.out]
              have HBQ := Lib.hid (below_drewN hbw nq)
              have HOQ := Lib.hid (hown.drewN nq)
              have c0' : (wr.drewN nq).cell? ⟨0, c.toNat * 2, none⟩ = some (.bool bb) := c0
              have c1' : (wr.drewN nq).cell? ⟨0, c.toNat * 2 + 1, none⟩ = some (.bool aa) := c1
              clear c0 c1 HCL hown hbw
              generalize wr.drewN nq = wq at *
              go_upto_region 14 with fail
              go_cut [89] (fun s wx => s = .bool false ∧ wx = wq)
              case first =>
                by_cases hN4 : N = 4
                · have hc0 : c = 0 := Decidable.byContradiction fun h => HNC.out ⟨hN4, h⟩
                  subst hN4 hc0
                  go_wp2
                  all_goals (go_meet; case rel => exact ⟨rfl, rfl⟩)
                · have hNe : ((N : Int) == 4) = false := beq_not (by omega)
                  clear hN4
                  go_wp2
                  all_goals (go_meet; case rel => exact ⟨by first | rfl | (rw [decide_eq_false (by omega), decide_eq_false (by omega), decide_eq_false (by omega)]; rfl), rfl⟩)
              case rest =>
                obtain ⟨rfl, hwc⟩ := hcut
                subst hwc
                generalize wc = wz at *
                obtain ⟨rs, hrs⟩ : ∃ rs : Bs, rs = tl.drop (N - 4) := ⟨_, rfl⟩
                have HRS := Lib.hid (show List.take (tl.length + 1 + 1 + 1 + 1 - N) (List.drop N (a :: b :: c :: 0 :: tl)) = rs from by
                  rw [hrs, show List.drop N (a :: b :: c :: 0 :: tl) = tl.drop (N - 4) from by
                    obtain ⟨M, rfl⟩ : ∃ M, N = M + 4 := ⟨N - 4, by omega⟩
                    rfl]
                  exact List.take_of_length_le (by simp; omega))
                rw [← hrs] at HST
                have hrl : rs.length ≤ tl.length := by rw [hrs]; simp
                clear hrs
                go_upto_region 17 with fail
                go_region
                go_upto_region 19 with fail
                rw [HRS.out]
                go_cut [125] (fun s wx => s = .bool (tB bb aa xs rs d K) ∧ OwnG wx w.heap.size 43 (.slice A10 xs.length c10) xs ∧ Below w.heap.size w wx ∧ Blk wx (wz.heap.size + 1) 43 #[.bool bb, .bool aa, .string ⟨(tl.take (N - 4)).toArray⟩])
                case first =>
                  have hz := HBQ.out.size
                  have HO := Lib.hid (((HOQ.out.alloc (.cells #[.bool bb, .bool aa] 58)).alloc (.cells #[.bool bb, .bool aa, .string ⟨(tl.take (N - 4)).toArray⟩] 43)).drew)
                  have HB := Lib.hid (((HBQ.out.alloc hz (.cells #[.bool bb, .bool aa] 58)).alloc (by simp; omega) (.cells #[.bool bb, .bool aa, .string ⟨(tl.take (N - 4)).toArray⟩] 43)).drew)
                  have HK := Lib.hid ((Blk.new (wz.alloc (.cells #[.bool bb, .bool aa] 58)) 43 #[.bool bb, .bool aa, .string ⟨(tl.take (N - 4)).toArray⟩]).drew)
                  simp only [World.size_alloc] at HK
                  have hr : rs.isEmpty = true ∨ rs.isEmpty = false := by cases rs <;> simp
                  have hk : (((d.length : Int) != (K : Int)) = true ∧ decide (d.length ≠ K) = true) ∨ (((d.length : Int) != (K : Int)) = false ∧ decide (d.length ≠ K) = false) := by
                    by_cases h : d.length = K
                    · right; simp [h]
                    · left; simp [h]; omega
                  cases bb
                  · cases aa
                    · go_wp2; all_goals (go_meet; case rel => exact ⟨by first | rfl | (unfold tB; rfl), HO.out, HB.out, HK.out⟩)
                    · rcases hr with hr | hr
                      · rcases hk with ⟨hk1, hk2⟩ | ⟨hk1, hk2⟩
                        · go_wp2; all_goals (go_meet; case rel => exact ⟨by first | rfl | (unfold tB; simp only [hr, hk2]; rfl), HO.out, HB.out, HK.out⟩)
                        · go_wp2; all_goals (go_meet; case rel => exact ⟨by first | rfl | (unfold tB; simp only [hr, hk2]; rfl), HO.out, HB.out, HK.out⟩)
                      · go_wp2; all_goals (go_meet; case rel => exact ⟨by first | rfl | (unfold tB; simp only [hr]; rfl), HO.out, HB.out, HK.out⟩)
                  · cases xs with
                    | nil =>
                      cases aa
                      · go_wp2; all_goals (go_meet; case rel => exact ⟨by first | rfl | (unfold tB; rfl), HO.out, HB.out, HK.out⟩)
                      · rcases hr with hr | hr
                        · rcases hk with ⟨hk1, hk2⟩ | ⟨hk1, hk2⟩
                          · go_wp2; all_goals (go_meet; case rel => exact ⟨by first | rfl | (unfold tB; simp only [hr, hk2]; rfl), HO.out, HB.out, HK.out⟩)
                          · go_wp2; all_goals (go_meet; case rel => exact ⟨by first | rfl | (unfold tB; simp only [hr, hk2]; rfl), HO.out, HB.out, HK.out⟩)
                        · go_wp2; all_goals (go_meet; case rel => exact ⟨by first | rfl | (unfold tB; simp only [hr]; rfl), HO.out, HB.out, HK.out⟩)
                    | cons y ys =>
                      have hy : (0 : Int) < (ys.length : Int) + 1 := by omega
                      go_wp2; all_goals (go_meet; case rel => exact ⟨by first | rfl | (unfold tB; rfl), HO.out, HB.out, HK.out⟩)
                case rest =>
                  obtain ⟨rfl, hown, hbw, hblk⟩ := hcut
                  by_cases ht : tB bb aa xs rs d K = true
                  · have hn : recs L (decide (d.length = K)) xs.isEmpty (a :: b :: c :: 0 :: tl) = none := by
                      rw [HST.out, if_pos]
                      unfold tB at ht
                      revert ht
                      cases bb <;> cases aa <;> cases xs <;> cases rs <;> simp
                    have HU2 := Lib.hid (seg_none HV.out (show segs L K d = none by rw [hrec.out, hn]; rfl))
                    rw [ht]
                    clear ht hn
                    go_wp2
                    go_ret2
                    exact Segged.fail HU2.out hbw
                  · have ht' : tB bb aa xs rs d K = false := by simpa using ht
                    have HS2 := Lib.hid (show recs L (decide (d.length = K)) xs.isEmpty (a :: b :: c :: 0 :: tl) = (recs L (decide (d.length = K)) false rs).map (⟨bb, aa, tl.take (N - 4)⟩ :: ·) from by
                      rw [HST.out, if_neg]
                      unfold tB at ht'
                      revert ht'
                      cases bb <;> cases aa <;> cases xs <;> cases rs <;> simp)
                    rw [ht']
                    clear ht ht'
                    have m0 : wc.cell? ⟨wz.heap.size + 1, 0, none⟩ = some (.bool bb) := hblk.cell 0
                    have m1 : wc.cell? ⟨wz.heap.size + 1, 1, none⟩ = some (.bool aa) := hblk.cell 1
                    have m2 : wc.cell? ⟨wz.heap.size + 1, 2, none⟩ = some (.string ⟨(tl.take (N - 4)).toArray⟩) := hblk.cell 2
                    have hz := hbw.size
                    have HB := Lib.hid (hbw.alloc hz (.cells #[.bool bb, .bool aa, .string ⟨(tl.take (N - 4)).toArray⟩] 43))
                    have HO := Lib.hid (hown.alloc (.cells #[.bool bb, .bool aa, .string ⟨(tl.take (N - 4)).toArray⟩] 43))
                    have HL := Lib.hid (SegsAt.lit1 wc 43 ⟨bb, aa, tl.take (N - 4)⟩)
                    have hxl : xs.length ≤ 1000000 := by omega
                    clear hblk hown hbw
                    go_wp2_with (at_builtin; refine wpList_append_seg rfl (.tmp 126) (.tmp 128) _ rfl w.heap.size 43 i0 _ 24 Tryd.underlying32 HI.out HZ0.out HZ1.out HZ2.out rfl (by decide) _ xs rfl HO.out ⟨bb, aa, tl.take (N - 4)⟩ wc.heap.size 0 1 rfl HL.out hxl HB.out.size ?_; intro v5 w5 hown5 hg5 _ _)
                    go_roundw
                    case rel =>
                      refine ⟨rs, xs ++ [⟨bb, aa, tl.take (N - 4)⟩], rfl, ?_, hown5, HB.out.grown hg5 HB.out.size (fun k hk => (HO.out.lt k hk).1), by simp; omega⟩
                      show _ = _
                      rw [hrec.out, HS2.out, show (xs ++ [(⟨bb, aa, tl.take (N - 4)⟩ : Seg)]).isEmpty = false from by cases xs <;> rfl]
                      cases recs L (decide (d.length = K)) false rs <;> simp
                    case measure => simp [strLen, ByteArray.size]; omega
          · have hen := byte_ne he0
            have HU2 := Lib.hid (seg_none HV.out (fail_ (head_bad (.inr (.inl he0)))))
            clear he0
            clear fail_ hf0
            go_wp2
            go_ret2
            exact Segged.fail HU2.out hbw
  · have HU := Lib.hid (seg_none (L := L) (K := K) (d := d) HV.out (segs_none (.inr (.inr h3))))
    cases hrw : readWord (d.take 4) with
    | none =>
      have b1 := Lib.hid (show rwB (d.take 4) = false from by unfold rwB; rw [hrw]; rfl)
      clear hrw h3
      go_enter Tryd.func18, Tryd.ntmps18
      go_wp2_with (first | (go_at_call 15; refine (valid15 _ _ _).mono ?_; rintro e w' ⟨rfl, rfl⟩; rw [HV.out]) | (go_at_call 33; refine (readWord33 _ _).mono ?_; rintro e w1 ⟨rfl, hb1⟩; rw [b1.out]))
      go_ret2
      exact Segged.fail HU.out hb1
    | some m =>
      have b1 := Lib.hid (show rwB (d.take 4) = true from by unfold rwB; rw [hrw]; rfl)
      have b2 := Lib.hid (show rwI (d.take 4) = (m : Int) from by unfold rwI; rw [hrw]; rfl)
      have hnn : ((m : Int) != (d.length : Int)) = true := bne_of (fun e => h3 (by rw [hrw]; congr 1; omega))
      clear hrw h3
      go_enter Tryd.func18, Tryd.ntmps18
      go_wp2_with (first | (go_at_call 15; refine (valid15 _ _ _).mono ?_; rintro e w' ⟨rfl, rfl⟩; rw [HV.out]) | (go_at_call 33; refine (readWord33 _ _).mono ?_; rintro e w1 ⟨rfl, hb1⟩; rw [b1.out, b2.out]))
      go_ret2
      exact Segged.fail HU.out hb1

theorem segs18 (L K : Int) (d : Bs) (w : World) (C : Codes w) (hd : d.length ≤ 100000) : Calls Tryd.prog 18 #[.int .i64 L, .int .i64 K, .string ⟨d.toArray⟩] w (Segged 43 L K d w) := by
  by_cases hv : vok L K = true
  · obtain ⟨l, k, rfl, rfl, hl, hk⟩ := vok_nat hv
    exact segs18_ok l k d w C hl hk hd
  · exact segs18_bad L K d w (by simpa using hv)
end Go.Proofs.YtabpgfcmfflceaaDoor
