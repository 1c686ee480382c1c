/- The walk of the reference's Segments: it returns what Segments returns. -/
import Derived.Test.YtabpgfcmfflceaaDoorSegWalk
import Derived.Deep.DeepCutAuto
namespace Go.Proofs.YtabpgfcmfflceaaDoor
open Go.RowKit P12 Go.Sort
attribute [local go_sem] ByteArray.mk_append_mk ByteArray.extract_mk mk_index

theorem OwnG.empty (w : World) (B : Nat) (e : TypeId) (h : B ≤ w.heap.size) : OwnG (w.alloc (.cells #[] e)) B e (.slice (some ⟨w.heap.size, 0, none⟩) 0 0) [] :=
  World.ownsRow_made w #[] 0 h (Nat.zero_le _) rfl
theorem OwnG.setCell {w : World} {B : Nat} {e : TypeId} {v : Value} {ls : List Seg} (h : OwnG w B e v ls) {p : Addr} (hp : v.ownBlock ≠ some p.block) (u : Value) : OwnG (w.setCell p u) B e v ls := by
  refine ⟨h.1, ?_⟩
  rcases h.2 with h1 | ⟨g, cap, cur, rfl, a2, a3, a4⟩
  · exact .inl h1
  · refine .inr ⟨g, cap, cur, rfl, a2, ?_, a4⟩
    rw [Below.heap_setCell]
    · exact a3
    · intro e
      exact hp (by simp [Value.ownBlock, e])
theorem info61 : (Tryd.prog.info? 61).map (fun i => (i.zero, i.size, i.bytes)) = some (some (.agg #[.bool false, .bool false, .string ⟨#[]⟩]), 3, 24) := by kernel_rfl
theorem word_iff {d : Bs} (hd : d.length ≤ 65535) : readWord (d.take 4) = some d.length ↔ d.take 4 = word d.length := by
  constructor
  · intro h
    exact (readWord_some h).1.symm
  · intro h
    rw [h]
    exact readWord_word hd
theorem at_drop {d : Bs} {k : Nat} {a : UInt8} {r : Bs} (h : d.drop k = a :: r) : ∀ hk : k < d.length, d[k] = a := by
  intro hk
  have := List.drop_eq_getElem_cons hk
  rw [h] at this
  exact (List.cons.inj this).1.symm
theorem drop_next {d : Bs} {k : Nat} {a : UInt8} {r : Bs} (h : d.drop k = a :: r) : d.drop (k + 1) = r := by
  rw [← List.drop_drop, h]
  rfl

set_option maxHeartbeats 400000 in
theorem segs19_bad (L K : Int) (d : Bs) (w : World) (hv : vok L K = false) : Calls Tryd.prog 19 #[.int .i64 L, .int .i64 K, .string ⟨d.toArray⟩] w (Segged 61 L K d w) := by
  have HU := Lib.hid (seg_bad (d := d) hv)
  have HV := Lib.hid hv
  clear hv
  go_enter Tryd.func19, Tryd.ntmps19
  go_wp2_with (go_at_call 16; refine (valid16 _ _ _).mono ?_; rintro e w' ⟨rfl, rfl⟩; rw [HV.out])
  go_ret2
  exact Segged.fail HU.out (Below.refl _ _)

/-- What the last parts of the reference's test say. -/
def vB (bb aa : Bool) (k N : Nat) (d : Bs) (K : Nat) : Bool := (bb && decide (4 < k)) || (aa && (decide (k + N < d.length) || decide (d.length < K)))
set_option maxRecDepth 100000 in
set_option maxHeartbeats 2000000 in
theorem segs19_ok (L K : Nat) (d : Bs) (w : World) (hL : 1 ≤ L ∧ L ≤ 1000) (hK : 9 ≤ K ∧ K ≤ 1024) (hd : d.length ≤ 60000) : Calls Tryd.prog 19 #[.int .i64 L, .int .i64 K, .string ⟨d.toArray⟩] w (Segged 61 L K d w) := by
  have HV := Lib.hid (nat_vok hL hK)
  obtain ⟨i0, hi0, hz0, hz1, hz2⟩ := info_parts info61
  have HI := Lib.hid hi0
  have HZ0 := Lib.hid hz0
  have HZ1 := Lib.hid hz1
  have HZ2 := Lib.hid hz2
  clear hi0 hz0 hz1 hz2
  by_cases h1 : d.length < 8
  · have HU := Lib.hid (seg_none (L := L) (K := K) HV.out (segs_none (.inl h1)))
    have hd1 : decide ((d.length : Int) < 8) = true := decide_eq_true (by omega)
    go_enter Tryd.func19, Tryd.ntmps19
    go_wp2_with (go_at_call 16; refine (valid16 _ _ _).mono ?_; rintro e w' ⟨rfl, rfl⟩; rw [HV.out])
    refine wp_region_quiet_below (by kernel_rfl) (by kernel_rfl) ?_
    repeat (quiet_step ((go_at_call 34; refine Calls.regrown_of (word34 _ _))))
    refine wpQuiet_nil ?_
    intro w7 hw7
    obtain ⟨p, rfl⟩ := hw7
    have hb7 := below_regrown w p.d p.os
    generalize grow (redrawn w p.d) p.os = w7 at *
    go_wp2
    go_ret2
    exact Segged.fail HU.out hb7
  have hd1 : decide ((d.length : Int) < 8) = false := decide_eq_false (by omega)
  by_cases h2 : K < d.length
  · have HU := Lib.hid (seg_none (L := L) (K := K) HV.out (segs_none (.inr (.inl h2))))
    have hd2 : decide (K < d.length) = true := decide_eq_true h2
    go_enter Tryd.func19, Tryd.ntmps19
    go_wp2_with (go_at_call 16; refine (valid16 _ _ _).mono ?_; rintro e w' ⟨rfl, rfl⟩; rw [HV.out])
    refine wp_region_quiet_below (by kernel_rfl) (by kernel_rfl) ?_
    repeat (quiet_step ((go_at_call 34; refine Calls.regrown_of (word34 _ _))))
    refine wpQuiet_nil ?_
    intro w7 hw7
    obtain ⟨p, rfl⟩ := hw7
    have hb7 := below_regrown w p.d p.os
    generalize grow (redrawn w p.d) p.os = w7 at *
    go_wp2
    go_ret2
    exact Segged.fail HU.out hb7
  have hd2 : decide (K < d.length) = false := decide_eq_false h2
  have h4I : (4 : Int) ≤ (d.length : Int) := by omega
  by_cases h3 : readWord (d.take 4) = some d.length
  · have HU := Lib.hid (segs_go (L := L) h1 h2 h3)
    have hw3 : (List.take 4 d == wordI (d.length : Int)) = true := by rw [wordI_nat, (word_iff (by omega)).1 h3]; simp
    clear h3
    go_enter Tryd.func19, Tryd.ntmps19
    go_wp2_with (go_at_call 16; refine (valid16 _ _ _).mono ?_; rintro e w' ⟨rfl, rfl⟩; rw [HV.out])
    refine wp_region_quiet_below (by kernel_rfl) (by kernel_rfl) ?_
    repeat (quiet_step ((go_at_call 34; refine Calls.regrown_of (word34 _ _))))
    refine wpQuiet_nil ?_
    intro w7 hw7
    obtain ⟨p, rfl⟩ := hw7
    have hb7 := below_regrown w p.d p.os
    generalize grow (redrawn w p.d) p.os = w7 at *
    clear hw3 hd1 hd2
    have hbw0 := below_alloc hb7 (.cells #[] 61)
    have hz7 := hb7.size
    go_wp2
    clear hb7
    go_loopw [8, 9] (fun out s wr => ∃ (k : Nat) (xs : List Seg), s = .int .i64 k ∧ 4 ≤ k ∧ k ≤ d.length ∧ Hid (segs L K d = (recs L (decide (d.length = K)) xs.isEmpty (d.drop k)).map (xs ++ ·)) ∧ Hid (xs.isEmpty = false ↔ 4 < k) ∧ OwnG wr w.heap.size 61 out xs ∧ Below w.heap.size w wr ∧ xs.length ≤ k) (fun _ s _ => d.length - (intOf s).toNat)
    case atStart =>
      refine ⟨4, [], rfl, Nat.le_refl _, by omega, ?_, by show _ ↔ _; simp, OwnG.empty _ _ _ hz7, hbw0, by simp⟩
      show segs L K d = (recs L (decide (d.length = K)) true (d.drop 4)).map ([] ++ ·)
      rw [HU.out]
      cases recs L (decide (d.length = K)) true (d.drop 4) <;> simp
    case round =>
      obtain ⟨k, xs, rfl, hk4, hkl, hrec, hfst, hown, hbw, hxk⟩ := hrel
      by_cases hend : k = d.length
      · have hf0 : d.drop k = [] := List.drop_of_length_le (by omega)
        have hu : segs L K d = some xs := by
          rw [hrec.out, hf0, recs_nil]
          simp
        have HU2 := Lib.hid (seg_some HV.out hu)
        clear hu hf0
        subst hend
        go_wp2
        go_ret2
        exact ⟨_, by rw [HU2.out.1]; rfl, by rw [HU2.out.2]; exact hown, hbw⟩
      have hkl' : k < d.length := by omega
      have hf0 : d.drop k ≠ [] := fun e => by have := congrArg List.length e; simp at this; omega
      have fail_ : head L (d.drop k) = none → segs L K d = none := fun h => by rw [hrec.out, recs_stop hf0 h]; rfl
      by_cases h4 : d.length < k + 4
      · have HU2 := Lib.hid (seg_none HV.out (fail_ (head_short (by simp; omega))))
        clear fail_ hf0 hend
        go_wp2
        go_ret2
        exact Segged.fail HU2.out hbw
      obtain ⟨a, b, c, e, tl, hf⟩ : ∃ a b c e tl, d.drop k = a :: b :: c :: e :: tl := by
        have hl : 4 ≤ (d.drop k).length := by simp; omega
        match d.drop k, hl with
        | a :: b :: c :: e :: tl, _ => exact ⟨a, b, c, e, tl, rfl⟩
      have f1 := drop_next hf
      have f2 := drop_next f1
      have f3 := drop_next f2
      have f4 := drop_next f3
      have A0 := at_drop hf
      have A1 := at_drop f1
      have A2 := at_drop f2
      have A3 := at_drop f3
      have htl : tl.length + (k + 4) = d.length := by have := congrArg List.length hf; simp at this; omega
      have HF := Lib.hid hf
      have HF4 := Lib.hid f4
      have ha := a.toNat_lt
      have hb := b.toNat_lt
      obtain ⟨N, hN⟩ : ∃ N : Nat, 256 * a.toNat + b.toNat = N := ⟨_, rfl⟩
      have HN := Lib.hid (show 256 * (a.toNat : Int) + b.toNat = (N : Int) from by omega)
      have hNb : N ≤ 65535 := by omega
      have hk1 : k + 1 < d.length := by omega
      have hk2 : k + 2 < d.length := by omega
      have hk3 : k + 3 < d.length := by omega
      clear hf f1 f2 f3 f4 hend
      go_upto_region 10 with fail
      have hk1I : (k : Int) + 1 < (d.length : Int) := by omega
      have hk2I : (k : Int) + 2 < (d.length : Int) := by omega
      have hk1z : 0 ≤ (k : Int) + 1 := by omega
      have hk2z : 0 ≤ (k : Int) + 2 := by omega
      have hw1 : IntKind.i64.wrap (a.toNat : Int) = a.toNat := IntWalk.i64_in _ (by omega)
      have hw2 : IntKind.i64.wrap (b.toNat : Int) = b.toNat := IntWalk.i64_in _ (by omega)
      have hw3 : IntKind.i64.wrap (256 * (a.toNat : Int)) = 256 * a.toNat := IntWalk.i64_in _ (by omega)
      have hw4 : IntKind.i64.wrap (256 * (a.toNat : Int) + b.toNat) = N := by rw [IntWalk.i64_in _ (by omega)]; exact HN.out
      have hw5 : IntKind.i64.wrap ((k : Int) + 1) = k + 1 := IntWalk.i64_in _ (by omega)
      have hw6 : IntKind.i64.wrap ((k : Int) + 2) = k + 2 := IntWalk.i64_in _ (by omega)
      have ht1 : ((k : Int) + 1).toNat = k + 1 := by omega
      have ht2 : ((k : Int) + 2).toNat = k + 2 := by omega
      go_quiet (fail)
      clear hw1 hw2 hw3 hw4 hw5 hw6 ht1 ht2
      have HBQ := Lib.hid (below_drewN hbw nq)
      have HOQ := Lib.hid (hown.drewN nq)
      clear hown hbw
      generalize wr.drewN nq = wq at *
      obtain ⟨bb, hbb⟩ : ∃ bb : Bool, bb = decide (2 ≤ c) := ⟨_, rfl⟩
      obtain ⟨aa, haa⟩ : ∃ aa : Bool, aa = decide (c % 2 = 1) := ⟨_, rfl⟩
      have HBB := Lib.hid hbb
      have HAA := Lib.hid haa
      clear hbb haa
      go_upto_region 11 with fail
      go_cut [12] (fun s wx => ∃ g, s = .pointer (some ⟨g, 0, none⟩) ∧ Blk wx g 61 #[.bool bb, .bool aa, .string ⟨#[]⟩] ∧ OwnG wx w.heap.size 61 u8 xs ∧ Below w.heap.size w wx ∧ Hid (u8.ownBlock ≠ some g) ∧ w.heap.size ≤ g)
      case first =>
        have hz := HBQ.out.size
        go_wp2
        go_meet
        case rel =>
          refine ⟨wq.heap.size, rfl, ?_, HOQ.out.alloc _, HBQ.out.alloc hz _, (fun e => by have := (HOQ.out.lt _ e).2; omega), hz⟩
          have e1 : decide ((2 : Int) ≤ (c.toNat : Int)) = bb := by rw [HBB.out, Bool.eq_iff_iff]; simp [UInt8.le_iff_toNat_le]; omega
          have e2 : ((c.toNat : Int) % 2 == 1) = aa := by
            rw [HAA.out, Bool.eq_iff_iff]
            simp only [beq_iff_eq, decide_eq_true_eq]
            rw [← UInt8.toNat_inj, UInt8.toNat_mod]
            show _ ↔ c.toNat % 2 = 1
            omega
          rw [e1, e2]
          exact Blk.new _ _ _
      case rest =>
        obtain ⟨g, rfl, hblk, hown, hbw, hug, hwg⟩ := hcut
        have m0 : wc.cell? ⟨g, 0, none⟩ = some (.bool bb) := hblk.cell 0
        have m1 : wc.cell? ⟨g, 1, none⟩ = some (.bool aa) := hblk.cell 1
        have hk3I : (k : Int) + 3 < (d.length : Int) := by omega
        by_cases hc3 : 3 < c
        · have HU2 := Lib.hid (seg_none HV.out (fail_ (by rw [HF.out]; exact head_bad (.inl hc3))))
          have hcI : (3 : Int) < (c.toNat : Int) := by have := UInt8.lt_iff_toNat_lt.1 hc3; simp at this; omega
          clear hc3
          clear fail_ hf0
          go_wp2
          go_ret2
          exact Segged.fail HU2.out hbw
        have hcI : (c.toNat : Int) ≤ 3 := by
          have := hc3
          rw [UInt8.lt_iff_toNat_lt] at this
          simp at this
          omega
        by_cases he0 : ¬ e = 0
        · have HU2 := Lib.hid (seg_none HV.out (fail_ (by rw [HF.out]; exact head_bad (.inr (.inl he0)))))
          have hen := byte_ne he0
          clear he0 hc3
          clear fail_ hf0
          go_wp2
          go_ret2
          exact Segged.fail HU2.out hbw
        obtain rfl : e = 0 := Decidable.byContradiction he0
        by_cases hN4 : N < 4
        · have HU2 := Lib.hid (seg_none HV.out (fail_ (by rw [HF.out]; exact head_bad (.inr (.inr (.inl (by omega)))))))
          clear hN hc3 he0
          clear fail_ hf0
          go_wp2
          go_ret2
          exact Segged.fail HU2.out hbw
        by_cases hNc : N = 4 ∧ c ≠ 0
        · have HU2 := Lib.hid (seg_none HV.out (fail_ (by rw [HF.out]; exact head_bad (.inr (.inr (.inr (.inr (.inr ⟨by omega, hNc.2⟩))))))))
          have hcn := byte_ne hNc.2
          obtain rfl : N = 4 := hNc.1
          clear hN hNc hc3 he0
          clear fail_ hf0
          go_wp2
          go_ret2
          exact Segged.fail HU2.out hbw
        by_cases hNL : 4 + L < N
        · have HU2 := Lib.hid (seg_none HV.out (fail_ (by rw [HF.out]; exact head_bad (.inr (.inr (.inr (.inr (.inl (by omega)))))))))
          have HNC := Lib.hid hNc
          clear hN hc3 he0 hNc
          by_cases hN4e : N = 4
          · exfalso; omega
          have hNe : ((N : Int) == 4) = false := beq_not (by omega)
          clear hN4e
          clear fail_ hf0
          go_wp2
          go_ret2
          exact Segged.fail HU2.out hbw
        by_cases hNl : d.length < k + N
        · have HU2 := Lib.hid (seg_none HV.out (fail_ (by rw [HF.out]; exact head_bad (.inr (.inr (.inr (.inl (by omega))))))))
          have HNC := Lib.hid hNc
          clear hN hc3 he0 hNc
          by_cases hN4e : N = 4
          · exfalso; omega
          have hNe : ((N : Int) == 4) = false := beq_not (by omega)
          clear hN4e
          clear fail_ hf0
          go_wp2
          go_ret2
          exact Segged.fail HU2.out hbw
        have hgood := head_good (L := L) (a := a) (b := b) (c := c) (e := 0) (tl := tl) (by rintro (h | h | h | h | h | ⟨h, h'⟩); exact hc3 h; exact h rfl; omega; omega; omega; exact hNc ⟨by omega, h'⟩) hN
        rw [← HF.out, ← HBB.out, ← HAA.out] at hgood
        have HST := Lib.hid (recs_step (full := decide (d.length = K)) (fst := xs.isEmpty) hf0 hgood)
        have hrs : tl.drop (N - 4) = d.drop (k + N) := by
          rw [← HF4.out, List.drop_drop]
          congr 1
          omega
        have hdt : tl.take (N - 4) = List.take (k + N - (k + 4)) (List.drop (k + 4) d) := by
          rw [show List.drop (k + 4) d = tl from HF4.out, show k + N - (k + 4) = N - 4 from by omega]
        rw [hrs] at HST
        have HDT := Lib.hid hdt
        have HNC := Lib.hid hNc
        clear hN fail_ hc3 he0 hgood hNc hf0 hrs hdt
        go_upto_region 12 with fail
        go_cut [125] (fun s wx => s = .bool (vB bb aa k N d K) ∧ Blk wx g 61 #[.bool bb, .bool aa, .string ⟨#[]⟩] ∧ OwnG wx w.heap.size 61 u8 xs ∧ Below w.heap.size w wx)
        case first =>
          by_cases hN4e : N = 4
          · have hc0 : c = 0 := Decidable.byContradiction fun h => HNC.out ⟨hN4e, h⟩
            subst hN4e hc0
            have hbf : bb = false := HBB.out
            have haf : aa = false := HAA.out
            subst hbf haf
            have dL : decide (4 + (L : Int) < 4) = false := decide_eq_false (by omega)
            have dl : decide ((d.length : Int) < (k : Int) + 4) = false := decide_eq_false (by omega)
            go_wp2
            all_goals (go_meet; case rel => exact ⟨by first | rfl | (unfold vB; rfl), hblk, hown, hbw⟩)
          · have hNe : ((N : Int) == 4) = false := beq_not (by omega)
            have d3 : decide ((3 : Int) < (c.toNat : Int)) = false := decide_eq_false (by omega)
            have d4 : decide ((N : Int) < 4) = false := decide_eq_false (by omega)
            have dL : decide (4 + (L : Int) < (N : Int)) = false := decide_eq_false (by omega)
            have dl : decide ((d.length : Int) < (k : Int) + (N : Int)) = false := decide_eq_false (by omega)
            clear hN4e hN4 hNL hNl hcI
            cases bb
            · cases aa
              · go_wp2; all_goals (go_meet; case rel => exact ⟨by first | rfl | (unfold vB; rfl), hblk, hown, hbw⟩)
              · by_cases q1 : k + N < d.length
                · have q1d : decide (k + N < d.length) = true := decide_eq_true q1
                  have q1e : decide ((k : Int) + (N : Int) < (d.length : Int)) = true := decide_eq_true (by omega)
                  go_wp2; all_goals (go_meet; case rel => exact ⟨by first | rfl | (unfold vB; simp only [q1d]; rfl), hblk, hown, hbw⟩)
                · have q1d : decide (k + N < d.length) = false := decide_eq_false q1
                  have q1e : decide ((k : Int) + (N : Int) < (d.length : Int)) = false := decide_eq_false (by omega)
                  by_cases q2 : d.length < K
                  · have q2d : decide (d.length < K) = true := decide_eq_true q2
                    go_wp2; all_goals (go_meet; case rel => exact ⟨by first | rfl | (unfold vB; simp only [q1d, q2d]; rfl), hblk, hown, hbw⟩)
                  · have q2d : decide (d.length < K) = false := decide_eq_false q2
                    go_wp2; all_goals (go_meet; case rel => exact ⟨by first | rfl | (unfold vB; simp only [q1d, q2d]; rfl), hblk, hown, hbw⟩)
            · by_cases q0 : 4 < k
              · have q0d : decide (4 < k) = true := decide_eq_true q0
                have q0e : decide ((4 : Int) < (k : Int)) = true := decide_eq_true (by omega)
                go_wp2; all_goals (go_meet; case rel => exact ⟨by first | rfl | (unfold vB; simp only [q0d]; rfl), hblk, hown, hbw⟩)
              · have q0d : decide (4 < k) = false := decide_eq_false q0
                have q0e : decide ((4 : Int) < (k : Int)) = false := decide_eq_false (by omega)
                cases aa
                · go_wp2; all_goals (go_meet; case rel => exact ⟨by first | rfl | (unfold vB; simp only [q0d]; rfl), hblk, hown, hbw⟩)
                · by_cases q1 : k + N < d.length
                  · have q1d : decide (k + N < d.length) = true := decide_eq_true q1
                    have q1e : decide ((k : Int) + (N : Int) < (d.length : Int)) = true := decide_eq_true (by omega)
                    go_wp2; all_goals (go_meet; case rel => exact ⟨by first | rfl | (unfold vB; simp only [q0d, q1d]; rfl), hblk, hown, hbw⟩)
                  · have q1d : decide (k + N < d.length) = false := decide_eq_false q1
                    have q1e : decide ((k : Int) + (N : Int) < (d.length : Int)) = false := decide_eq_false (by omega)
                    by_cases q2 : d.length < K
                    · have q2d : decide (d.length < K) = true := decide_eq_true q2
                      go_wp2; all_goals (go_meet; case rel => exact ⟨by first | rfl | (unfold vB; simp only [q0d, q1d, q2d]; rfl), hblk, hown, hbw⟩)
                    · have q2d : decide (d.length < K) = false := decide_eq_false q2
                      go_wp2; all_goals (go_meet; case rel => exact ⟨by first | rfl | (unfold vB; simp only [q0d, q1d, q2d]; rfl), hblk, hown, hbw⟩)
        case rest =>
          clear m0 m1 hblk hown hbw
          obtain ⟨rfl, hblk, hown, hbw⟩ := hcut
          by_cases ht : vB bb aa k N d K = true
          · have hn : recs L (decide (d.length = K)) xs.isEmpty (d.drop k) = none := by
              rw [HST.out, if_pos]
              unfold vB at ht
              simp only [Bool.or_eq_true, Bool.and_eq_true, decide_eq_true_eq] at ht
              rcases ht with ⟨q1, q2⟩ | ⟨q1, q2⟩
              · exact .inl ⟨q1, hfst.out.2 q2⟩
              · refine .inr ⟨q1, ?_⟩
                rcases q2 with q2 | q2
                · exact .inl (fun e => by have := congrArg List.length e; simp at this; omega)
                · exact .inr (decide_eq_false (by omega))
            have HU2 := Lib.hid (seg_none HV.out (show segs L K d = none by rw [hrec.out, hn]; rfl))
            rw [ht]
            clear ht hn
            go_wp2
            go_ret2
            exact Segged.fail HU2.out hbw
          · have ht' : vB bb aa k N d K = false := by simpa using ht
            have HS2 := Lib.hid (show recs L (decide (d.length = K)) xs.isEmpty (d.drop k) = (recs L (decide (d.length = K)) false (d.drop (k + N))).map (⟨bb, aa, tl.take (N - 4)⟩ :: ·) from by
              rw [HST.out, if_neg]
              unfold vB at ht
              simp only [Bool.or_eq_true, Bool.and_eq_true, decide_eq_true_eq] at ht
              rintro (⟨q1, q2⟩ | ⟨q1, q2⟩)
              · exact ht (.inl ⟨q1, hfst.out.1 q2⟩)
              · refine ht (.inr ⟨q1, ?_⟩)
                rcases q2 with q2 | q2
                · exact .inl (by
                    apply Decidable.byContradiction
                    intro h
                    exact q2 (List.drop_of_length_le (by omega)))
                · have := of_decide_eq_false q2
                  exact .inr (by omega))
            rw [ht']
            have fz : wc.frozen? ⟨g, 2, none⟩ = false := hblk.frozen 2
            have m2 : wc.cell? ⟨g, 2, none⟩ = some (.string ⟨#[]⟩) := hblk.cell 2
            have hgl := hblk.lt
            have hq1 : (k : Int) + 4 ≤ (k : Int) + N := by omega
            have hq2 : (k : Int) + N ≤ (d.length : Int) := by omega
            obtain ⟨dt, hdt⟩ : ∃ dt : Bs, dt = tl.take (N - 4) := ⟨_, rfl⟩
            have HD1 := Lib.hid hdt
            have HDX := Lib.hid (show List.take (k + N - (k + 4)) (List.drop (k + 4) d) = dt from by rw [hdt]; exact HDT.out.symm)
            have hb1 := hblk.put 2 (.string ⟨dt.toArray⟩)
            have HBL := Lib.hid (show Blk (wc.setCell ⟨g, 2, none⟩ (.string ⟨dt.toArray⟩)) g 61 #[.bool bb, .bool aa, .string ⟨dt.toArray⟩] from hb1)
            have HO := Lib.hid (hown.setCell (p := ⟨g, 2, none⟩) hug.out (.string ⟨dt.toArray⟩))
            have HB := Lib.hid (hbw.setCell (p := ⟨g, 2, none⟩) hwg (.string ⟨dt.toArray⟩))
            have hz := hbw.size
            have hxl : xs.length ≤ 1000000 := by omega
            clear ht ht' hdt hb1 hblk hown hbw
            go_upto_region 15 with fail
            rw [HDX.out]
            generalize wc.setCell ⟨g, 2, none⟩ (.string ⟨dt.toArray⟩) = wd at *
            have n0 : wd.cell? ⟨g, 0, none⟩ = some (.bool bb) := HBL.out.cell 0
            have n1 : wd.cell? ⟨g, 1, none⟩ = some (.bool aa) := HBL.out.cell 1
            have n2 : wd.cell? ⟨g, 2, none⟩ = some (.string ⟨dt.toArray⟩) := HBL.out.cell 2
            have HO2 := Lib.hid (HO.out.alloc (.cells #[.bool bb, .bool aa, .string ⟨dt.toArray⟩] 61))
            have HB2 := Lib.hid (HB.out.alloc HB.out.size (.cells #[.bool bb, .bool aa, .string ⟨dt.toArray⟩] 61))
            have HL := Lib.hid (SegsAt.lit1 wd 61 ⟨bb, aa, dt⟩)
            go_wp2_with (at_builtin; refine wpList_append_seg rfl (.tmp 134) (.tmp 136) _ rfl w.heap.size 61 i0 _ 24 Tryd.underlying35 HI.out HZ0.out HZ1.out HZ2.out rfl (by decide) _ xs rfl HO2.out ⟨bb, aa, dt⟩ wd.heap.size 0 1 rfl HL.out hxl HB2.out.size ?_; intro v5 w5 hown5 hg5 _ _)
            go_roundw
            case rel =>
              refine ⟨k + N, xs ++ [⟨bb, aa, dt⟩], by go_num, by omega, by omega, ?_, ?_, hown5, HB2.out.grown hg5 HB2.out.size (fun k hk => (HO2.out.lt k hk).1), by simp; omega⟩
              · show _ = _
                rw [hrec.out, HS2.out, ← HD1.out, show (xs ++ [(⟨bb, aa, dt⟩ : Seg)]).isEmpty = false from by cases xs <;> rfl]
                cases recs L (decide (d.length = K)) false (d.drop (k + N)) <;> simp
              · show _ ↔ _
                rw [show (xs ++ [(⟨bb, aa, dt⟩ : Seg)]).isEmpty = false from by cases xs <;> rfl]
                simp
                omega
            case measure => simp [intOf]; omega
  · have HU := Lib.hid (seg_none (L := L) (K := K) (d := d) HV.out (segs_none (.inr (.inr h3))))
    have hw3 : (List.take 4 d == wordI (d.length : Int)) = false := by
      rw [wordI_nat]
      simp only [beq_eq_false_iff_ne, ne_eq]
      exact fun e => h3 ((word_iff (by omega)).2 e)
    clear h3
    go_enter Tryd.func19, Tryd.ntmps19
    go_wp2_with (go_at_call 16; refine (valid16 _ _ _).mono ?_; rintro e w' ⟨rfl, rfl⟩; rw [HV.out])
    refine wp_region_quiet_below (by kernel_rfl) (by kernel_rfl) ?_
    repeat (quiet_step ((go_at_call 34; refine Calls.regrown_of (word34 _ _))))
    refine wpQuiet_nil ?_
    intro w7 hw7
    obtain ⟨p, rfl⟩ := hw7
    have hb7 := below_regrown w p.d p.os
    generalize grow (redrawn w p.d) p.os = w7 at *
    go_wp2
    go_ret2
    exact Segged.fail HU.out hb7

theorem segs19 (L K : Int) (d : Bs) (w : World) (hd : d.length ≤ 60000) : Calls Tryd.prog 19 #[.int .i64 L, .int .i64 K, .string ⟨d.toArray⟩] w (Segged 61 L K d w) := by
  by_cases hv : vok L K = true
  · obtain ⟨l, k, rfl, rfl, hl, hk⟩ := vok_nat hv
    exact segs19_ok l k d w hl hk hd
  · exact segs19_bad L K d w (by simpa using hv)
end Go.Proofs.YtabpgfcmfflceaaDoor
