/- The walk of the reference's Pack: it returns what Pack returns. -/
import Derived.Test.YtabpgfcmfflceaaDoorRefPut
namespace P12
theorem pieces_ne (K : Nat) : ∀ (k : Nat) (b : Bool) (r : Bs), pieces K k b r ≠ [] := by
  intro k b r
  cases k with
  | zero => simp [pieces]
  | succ k => rw [pieces]; split <;> simp
theorem tl_ne (K : Nat) (b : Bool) (r : Bs) : tl K b r ≠ [] := by
  unfold tl parts
  intro h
  exact pieces_ne _ _ _ _ (List.map_eq_nil_iff.1 h)
theorem putP_ne (K : Nat) (last r : Bs) : putP K last r ≠ [] := by
  unfold putP
  by_cases h : (addP K last r).1 = []
  · rw [if_pos h]
    by_cases h0 : last = []
    · rw [if_pos h0, h0]
      unfold addP
      rw [if_pos rfl]
      simpa using tl_ne K false r
    · rw [if_neg h0]
      simp
  · rw [if_neg h]
    simp
theorem stepP_ne (K : Nat) (out : List Bs) (r : Bs) : stepP K out r ≠ [] := by
  unfold stepP
  intro h
  exact putP_ne _ _ _ (List.append_eq_nil_iff.1 h).2
end P12
namespace Go.Proofs.YtabpgfcmfflceaaDoor
open Go.RowKit P12 Go.Sort
attribute [local go_sem] ByteArray.mk_append_mk ByteArray.extract_mk mk_index

theorem OwnS.shorter {w : World} {B : Nat} {e : TypeId} {g m c : Nat} {ss : List Bs} {x : Bs} (h : OwnS w B e (.slice (some ⟨g, 0, none⟩) (m + 1) c) (ss ++ [x])) (hm : ss.length = m) : OwnS w B e (.slice (some ⟨g, 0, none⟩) m c) ss := by
  subst hm
  rcases h.2 with ⟨h0, _⟩ | ⟨g', cap, cur, hv, hb, hg, h1, h2, h3, h4⟩
  · cases h0
  · injection hv with e1 e2 e3
    injection e1 with e1
    injection e1 with e1
    subst e1 e3
    simp only [List.length_append, List.length_singleton] at h1
    refine ⟨by simp, .inr ⟨g, c, cur, rfl, hb, hg, by omega, h2, h3, ?_⟩⟩
    have := congrArg (List.take ss.length) h4
    simp only [List.length_append, List.length_singleton, Nat.mul_one, List.map_append, List.map_cons, List.map_nil] at this
    rw [List.take_take, Nat.min_eq_left (by omega), List.take_append_of_le_length (by simp), List.take_of_length_le (l := ss.map fun s => Value.string ⟨s.toArray⟩) (by simp)] at this
    rw [Nat.mul_one]
    exact this

theorem OwnS.cap {w : World} {B : Nat} {e : TypeId} {g n c : Nat} {ss : List Bs} (h : OwnS w B e (.slice (some ⟨g, 0, none⟩) n c) ss) (hn : n = ss.length) : n ≤ c := by
  subst hn
  rcases h.2 with ⟨h0, _⟩ | ⟨g', cap, cur, hv, hb, hg, h1, h2, h3, h4⟩
  · cases h0
  · injection hv with e1 e2 e3
    subst e3
    exact h1

set_option maxHeartbeats 400000 in
theorem pack14_bad (L K : Int) (A : Option Addr) (n c : Nat) (rs : List Bs) (w : World) (hv : vok L K = false) :
    Calls Tryd.prog 14 #[.int .i64 L, .int .i64 K, .slice A n c] w (Packed L K rs w) := by
  have HP := Lib.hid (packErr_bad (rs := rs) hv)
  have HV := Lib.hid hv
  clear hv
  go_enter Tryd.func14, Tryd.ntmps14
  go_wp2_with (go_at_call 16; refine (valid16 _ _ _).mono ?_; rintro e w' ⟨rfl, rfl⟩; rw [HV.out])
  go_ret2
  exact ⟨_, by rw [HP.out.1]; rfl, by rw [HP.out.2]; exact OwnS.nil _ _ _, Below.refl _ _⟩

theorem OwnS.empty (w : World) (B : Nat) (e : TypeId) (h : B ≤ w.heap.size) : OwnS (w.alloc (.cells #[] e)) B e (.slice (some ⟨w.heap.size, 0, none⟩) 0 0) [] :=
  World.ownsRow_made w #[] 0 h (Nat.zero_le _) rfl

set_option maxRecDepth 100000 in
set_option maxHeartbeats 4000000 in
theorem pack14_ok (L K : Nat) (A : Option Addr) (n c : Nat) (rs : List Bs) (w : World) (hL : 1 ≤ L ∧ L ≤ 1000) (hK : 9 ≤ K ∧ K ≤ 1024) (h : StrsAt w A n rs) (hT : total rs ≤ 900000) :
    Calls Tryd.prog 14 #[.int .i64 L, .int .i64 K, .slice A n c] w (Packed L K rs w) := by
  have HV := Lib.hid (nat_vok hL hK)
  have HN := Lib.hid h.len
  have hn : n ≤ 900000 := by have := length_total rs; have := h.len; omega
  have H := Lib.hid h
  clear h
  obtain ⟨i0, hi0, hz0, hz1, hz2⟩ := info_parts info9
  have HI := Lib.hid hi0
  have HZ0 := Lib.hid hz0
  have HZ1 := Lib.hid hz1
  have HZ2 := Lib.hid hz2
  clear hi0 hz0 hz1 hz2
  go_enter Tryd.func14, Tryd.ntmps14
  go_wp2_with (go_at_call 16; refine (valid16 _ _ _).mono ?_; rintro e w' ⟨rfl, rfl⟩; rw [HV.out])
  go_loopw [8, 9] (fun out i wr => ∃ (j : Nat) (ss : List Bs), j ≤ n ∧ i = .int .i64 j ∧ Hid (ss = packP K (rs.take j)) ∧ OwnS wr w.heap.size 9 out ss ∧ Below w.heap.size w wr ∧ ss.length ≤ total (rs.take j) ∧ Hid (∀ b ∈ ss, 8 ≤ b.length ∧ b.length ≤ 1024) ∧ Hid (∀ i s, i < j → rs[i]? = some s → s.length ≤ L)) (fun _ i _ => n - (intOf i).toNat)
  case atStart => exact ⟨0, [], Nat.zero_le _, rfl, rfl, OwnS.empty _ _ _ (Nat.le_refl _), below_alloc (Below.refl _ _) _, by simp, (fun b hb => by cases hb), fun i s hi => absurd hi (by omega)⟩
  case round =>
    obtain ⟨j, ss, hj, rfl, hss, hown, hbw, hsl, hbl, hall⟩ := hrel
    have hz := hbw.size
    by_cases hlt : j < n
    · obtain ⟨b, off, s, rfl, hs, hc⟩ := (H.out.below hbw).at_ hlt
      have HS := Lib.hid hs
      clear hs
      by_cases hgt : L < s.length
      · have HP := Lib.hid (packErr_long (K := K) HV.out (bad_at HS.out (by omega)))
        go_wp2
        go_ret2
        exact ⟨_, by rw [HP.out.1]; rfl, by rw [HP.out.2]; exact OwnS.nil _ _ _, hbw⟩
      have hsL : s.length ≤ 1000 := by omega
      have hsL2 : s.length ≤ L := by omega
      have hall2 : Hid (∀ i s, i < j + 1 → rs[i]? = some s → s.length ≤ L) := by
        intro i s' hi hs'
        by_cases hij : i = j
        · subst hij
          have := HS.out.symm.trans hs'
          simp only [Option.some.injEq] at this
          subst this
          omega
        · exact hall.out i s' (by omega) hs'
      have hnext : packP K (rs.take (j + 1)) = stepP K ss s := by rw [take_snoc HS.out, packP_snoc, hss.out]
      have htt : total (rs.take (j + 1)) = total (rs.take j) + (s.length + 1) := by rw [take_snoc HS.out, total_snoc]
      have htl := total_take rs (j + 1)
      have hnl : (packP K (rs.take (j + 1))).length ≤ total (rs.take (j + 1)) := by
        have := length_stepP K ss s
        rw [hnext]
        omega
      have hs9 : ss.length + (s.length + 1) ≤ 900000 := by omega
      clear htt htl
      have hnb : ∀ b ∈ packP K (rs.take (j + 1)), 8 ≤ b.length ∧ b.length ≤ 1024 := fun b hb => by
        have := packP_blocks (L := L) hK (rs := rs.take (j + 1)) (fun r hr => by
          obtain ⟨i, hi⟩ := List.mem_iff_getElem?.1 hr
          have hl := (List.getElem?_eq_some_iff.1 hi).1
          simp only [List.length_take] at hl
          rw [List.getElem?_take_of_lt (by omega)] at hi
          exact hall2.out i r (by omega) hi) b hb
        omega
      have HNX := Lib.hid hnext
      have HNL := Lib.hid hnl
      have HNB := Lib.hid hnb
      have HOWN := Lib.hid hown
      have HBW := Lib.hid hbw
      have lb := World.block_lt_of_cell? wr _ hc
      clear hnext hnl hnb hown hbw hgt
      by_cases hj0 : j = 0
      · have HSS := Lib.hid (show ss = [] from by rw [hss.out, hj0]; rfl)
        have HT := Lib.hid (show putP K [] s = stepP K ss s from by rw [HSS.out]; unfold stepP; rfl)
        subst hj0
        rw [Nat.add_zero] at hc
        go_wp2_with (go_at_call 32; refine (put32 K [] s _ hK (.inl rfl) (by simp) (by omega)).mono ?_; rintro e w2 ⟨v2, rfl, hown2, hb2⟩)
        go_roundw
        case rel => exact ⟨1, _, by omega, by go_num, (by rw [HNX.out, HT.out] : putP K [] s = _), hown2.base hz, HBW.out.trans (hb2.mono hz), (by rw [HT.out, ← HNX.out]; exact HNL.out), (by rw [HT.out, ← HNX.out]; exact HNB.out), hall2⟩
        case measure => simp [intOf]; omega
      · obtain ⟨pre, last, rfl⟩ : ∃ pre last, ss = pre ++ [last] := by
          obtain ⟨i, rfl⟩ : ∃ i, j = i + 1 := ⟨j - 1, by omega⟩
          obtain ⟨s0, hs0⟩ : ∃ s0, rs[i]? = some s0 := ⟨_, List.getElem?_eq_getElem (by rw [HN.out]; omega)⟩
          have hne : ss ≠ [] := by rw [hss.out, take_snoc hs0, packP_snoc]; exact stepP_ne _ _ _
          exact ⟨ss.dropLast, ss.getLast hne, (List.dropLast_concat_getLast hne).symm⟩
        obtain ⟨m, hm⟩ : ∃ m, m = pre.length := ⟨_, rfl⟩
        obtain ⟨g8, c8, rfl, hg8, hcells, -, hm8⟩ := HOWN.out.row (by simp)
        have hcl : wr.cell? ⟨g8, m, none⟩ = some (.string ⟨last.toArray⟩) := hcells _ _ (by simp [hm])
        have hlb := hbl.out last (by simp)
        rw [show (pre ++ [last]).length = m + 1 from by simp [hm]] at HOWN hm8 hsl hs9 ⊢
        have HO2 := Lib.hid (HOWN.out.shorter hm.symm)
        have HT := Lib.hid (show stepP K (pre ++ [last]) s = pre ++ putP K last s from by unfold stepP; simp)
        have HM := Lib.hid hm
        have hK0 := hK
        unfold maxLen at hm8
        have hje : ((j : Int) == 0) = false := by simp; omega
        have hpl := length_putP K last s
        have hm1 : (m : Int) < (m : Int) + 1 := by omega
        have hm2 : (m : Int) ≤ (m : Int) + 1 := by omega
        have hm3 : m ≤ m + 1 := by omega
        have hmc : m ≤ c8 := by have := HOWN.out.cap (by simp [hm]); omega
        have hmc2 : (m : Int) ≤ (c8 : Int) := by omega
        clear hm hcells hj0
        go_wp2
        refine wp_region_drawn 14 13 (by kernel_rfl) (by kernel_rfl) (fun w1 w2 => Below w1.heap.size w1 w2) (fun w1 => Below wr.heap.size wr w1)
          (fun i v w1 => match i with
            | 0 => v = .slice (some ⟨g8, 0, none⟩) (m + 1) c8
            | 1 => v = .int .i64 m
            | 2 => v = .slice (some ⟨g8, 0, none⟩) m c8
            | 3 => v = .int .i64 K
            | 4 => v = .slice (some ⟨g8, 0, none⟩) (m + 1) c8
            | 5 => v = .int .i64 m
            | 6 => v = .pointer (some ⟨g8, m, none⟩)
            | 7 => v = .string ⟨last.toArray⟩
            | 8 => v = .slice (some ⟨b, off, none⟩) n c
            | 9 => v = .int .i64 j
            | 10 => v = .pointer (some ⟨b, off + j, none⟩)
            | 11 => v = .string ⟨s.toArray⟩
            | 12 => OwnS w1 wr.heap.size 9 v (putP K last s)
            | _ => True) (fun _ _ => below_then) ?_ ((Below.refl _ _).drew) ?_ ?_
        · intro i v w1 w2 hf hR
          match i, hf with
          | 0, hf => exact hf
          | 1, hf => exact hf
          | 2, hf => exact hf
          | 3, hf => exact hf
          | 4, hf => exact hf
          | 5, hf => exact hf
          | 6, hf => exact hf
          | 7, hf => exact hf
          | 8, hf => exact hf
          | 9, hf => exact hf
          | 10, hf => exact hf
          | 11, hf => exact hf
          | 12, hf => exact OwnS.below hf hR
          | k + 13, _ => trivial
        · refine allOps_cons ?_ (allOps_cons ?_ (allOps_cons ?_ (allOps_cons ?_ (allOps_cons ?_ (allOps_cons ?_ (allOps_cons ?_ (allOps_cons ?_ (allOps_cons ?_ (allOps_cons ?_ (allOps_cons ?_ (allOps_cons ?_ (allOps_cons ?_ allOps_nil))))))))))))
          · intro u w1 hC hd K' hK
            simp only [List.take_succ_cons, List.take_zero, putAll, Act.put, List.setIfInBounds_toArray, List.set_cons_succ, List.set_cons_zero, Nat.zero_add, Nat.reduceAdd] at hK ⊢
            go_simp
            exact hK _ _ (Below.refl _ _) rfl
          · intro u w1 hC hd K' hK
            simp only [List.take_succ_cons, List.take_zero, putAll, Act.put, List.setIfInBounds_toArray, List.set_cons_succ, List.set_cons_zero, Nat.zero_add, Nat.reduceAdd] at hK ⊢
            go_simp
            exact hK _ _ (Below.refl _ _) rfl
          · intro u w1 hC hd K' hK
            have h0 : u 0 = .slice (some ⟨g8, 0, none⟩) (m + 1) c8 := hd 0 rfl
            have h1 : u 1 = .int .i64 m := hd 1 rfl
            simp only [List.take_succ_cons, List.take_zero, putAll, Act.put, List.setIfInBounds_toArray, List.set_cons_succ, List.set_cons_zero, Nat.zero_add, Nat.reduceAdd, h0, h1] at hK ⊢
            go_simp
            exact hK _ _ (Below.refl _ _) rfl
          · intro u w1 hC hd K' hK
            simp only [List.take_succ_cons, List.take_zero, putAll, Act.put, List.setIfInBounds_toArray, List.set_cons_succ, List.set_cons_zero, Nat.zero_add, Nat.reduceAdd] at hK ⊢
            go_simp
            exact hK _ _ (Below.refl _ _) rfl
          · intro u w1 hC hd K' hK
            simp only [List.take_succ_cons, List.take_zero, putAll, Act.put, List.setIfInBounds_toArray, List.set_cons_succ, List.set_cons_zero, Nat.zero_add, Nat.reduceAdd] at hK ⊢
            go_simp
            exact hK _ _ (Below.refl _ _) rfl
          · intro u w1 hC hd K' hK
            simp only [List.take_succ_cons, List.take_zero, putAll, Act.put, List.setIfInBounds_toArray, List.set_cons_succ, List.set_cons_zero, Nat.zero_add, Nat.reduceAdd] at hK ⊢
            go_simp
            exact hK _ _ (Below.refl _ _) rfl
          · intro u w1 hC hd K' hK
            have h4 : u 4 = .slice (some ⟨g8, 0, none⟩) (m + 1) c8 := hd 4 rfl
            have h5 : u 5 = .int .i64 m := hd 5 rfl
            simp only [List.take_succ_cons, List.take_zero, putAll, Act.put, List.setIfInBounds_toArray, List.set_cons_succ, List.set_cons_zero, Nat.zero_add, Nat.reduceAdd, h4, h5] at hK ⊢
            go_simp
            exact hK _ _ (Below.refl _ _) rfl
          · intro u w1 hC hd K' hK
            have h6 : u 6 = .pointer (some ⟨g8, m, none⟩) := hd 6 rfl
            have hc1 : w1.cell? ⟨g8, m, none⟩ = some (.string ⟨last.toArray⟩) := by rw [hC.cell (p := ⟨g8, m, none⟩) (World.block_lt_of_cell? wr _ hcl)]; exact hcl
            simp only [List.take_succ_cons, List.take_zero, putAll, Act.put, List.setIfInBounds_toArray, List.set_cons_succ, List.set_cons_zero, Nat.zero_add, Nat.reduceAdd, h6] at hK ⊢
            go_simp
            exact hK _ _ (Below.refl _ _) rfl
          · intro u w1 hC hd K' hK
            simp only [List.take_succ_cons, List.take_zero, putAll, Act.put, List.setIfInBounds_toArray, List.set_cons_succ, List.set_cons_zero, Nat.zero_add, Nat.reduceAdd] at hK ⊢
            go_simp
            exact hK _ _ (Below.refl _ _) rfl
          · intro u w1 hC hd K' hK
            simp only [List.take_succ_cons, List.take_zero, putAll, Act.put, List.setIfInBounds_toArray, List.set_cons_succ, List.set_cons_zero, Nat.zero_add, Nat.reduceAdd] at hK ⊢
            go_simp
            exact hK _ _ (Below.refl _ _) rfl
          · intro u w1 hC hd K' hK
            have h8 : u 8 = .slice (some ⟨b, off, none⟩) n c := hd 8 rfl
            have h9 : u 9 = .int .i64 j := hd 9 rfl
            simp only [List.take_succ_cons, List.take_zero, putAll, Act.put, List.setIfInBounds_toArray, List.set_cons_succ, List.set_cons_zero, Nat.zero_add, Nat.reduceAdd, h8, h9] at hK ⊢
            go_simp
            exact hK _ _ (Below.refl _ _) rfl
          · intro u w1 hC hd K' hK
            have h10 : u 10 = .pointer (some ⟨b, off + j, none⟩) := hd 10 rfl
            have hc1 : w1.cell? ⟨b, off + j, none⟩ = some (.string ⟨s.toArray⟩) := by rw [hC.cell (p := ⟨b, off + j, none⟩) (World.block_lt_of_cell? wr _ hc)]; exact hc
            simp only [List.take_succ_cons, List.take_zero, putAll, Act.put, List.setIfInBounds_toArray, List.set_cons_succ, List.set_cons_zero, Nat.zero_add, Nat.reduceAdd, h10] at hK ⊢
            go_simp
            exact hK _ _ (Below.refl _ _) rfl
          · intro u w1 hC hd K' hK
            have h3 : u 3 = .int .i64 K := hd 3 rfl
            have h7 : u 7 = .string ⟨last.toArray⟩ := hd 7 rfl
            have h11 : u 11 = .string ⟨s.toArray⟩ := hd 11 rfl
            simp only [List.take_succ_cons, List.take_zero, putAll, Act.put, List.setIfInBounds_toArray, List.set_cons_succ, List.set_cons_zero, Nat.zero_add, Nat.reduceAdd, h3, h7, h11] at hK ⊢
            go_simp
            refine (put32 K last s _ hK0 (.inr (by omega)) (by omega) (by omega)).mono ?_
            rintro e w2 ⟨v2, rfl, hown2, hb2⟩
            exact hK _ _ hb2 (hown2.base hC.size)
        · intro u w1 hC hf
          have f2 : u 2 = .slice (some ⟨g8, 0, none⟩) m c8 := hf 2 (by omega)
          have f12 := hf 12 (by omega)
          simp only [List.take_succ_cons, List.take_zero, List.drop_succ_cons, List.drop_zero, putAll, Act.put, List.setIfInBounds_toArray, List.set_cons_succ, List.set_cons_zero, Nat.zero_add, Nat.reduceAdd]
          refine wpList_append_owns rfl (.tmp 42) (.tmp 52) _ rfl w.heap.size 9 i0 _ Tryd.underlying22 HI.out HZ0.out HZ1.out HZ2.out rfl _ pre f2 (HO2.out.below hC) _ wr.heap.size _ rfl f12 (by have := HM.out; omega) (Nat.le_trans hz hC.size) ?_
          intro v3 w3 hown3 hb3 _ _
          have hb13 : Below w.heap.size w w3 := (HBW.out.trans (hC.mono hz)).trans hb3
          have HO3 := Lib.hid hown3
          clear f2 f12 hf hC hb3 hown3
          go_wp2
          go_roundw
          case rel => exact ⟨j + 1, _, by omega, by go_num, (by rw [HNX.out, HT.out] : pre ++ putP K last s = _), HO3.out, hb13, (by rw [← HT.out, ← HNX.out]; exact HNL.out), (by rw [← HT.out, ← HNX.out]; exact HNB.out), hall2⟩
          case measure => simp [intOf]; omega
    · have hjn : j = n := by omega
      subst hjn
      have hbn := bad_none (L := (L : Int)) HN.out (fun i s hi hs => by have := hall.out i s hi hs; omega)
      have HP := Lib.hid (packErr_ok HV.out hbn)
      have HE := Lib.hid (show packOut L K rs = ss from by rw [HP.out.2, hss.out, List.take_of_length_le (by rw [HN.out]; exact Nat.le_refl _)]; rfl)
      clear hbn
      go_wp2
      go_ret2
      exact ⟨_, by rw [HP.out.1]; rfl, by rw [HE.out]; exact hown, hbw⟩

theorem pack14 (L K : Int) (A : Option Addr) (n c : Nat) (rs : List Bs) (w : World) (h : StrsAt w A n rs) (hT : total rs ≤ 900000) :
    Calls Tryd.prog 14 #[.int .i64 L, .int .i64 K, .slice A n c] w (Packed L K rs w) := by
  by_cases hv : vok L K = true
  · obtain ⟨l, k, rfl, rfl, hl, hk⟩ := vok_nat hv
    exact pack14_ok l k A n c rs w hl hk h hT
  · exact pack14_bad L K A n c rs w (by simpa using hv)
end Go.Proofs.YtabpgfcmfflceaaDoor
