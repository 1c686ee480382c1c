/- The walk of LockAcyclic: every waiting unit waits for somebody, and no unit waits for itself. -/
import Derived.Test.YtkabfjknpjhonaaLkLawE
import Derived.Test.YtkabfjknpjhonaaMapV
namespace Go.Proofs.Ytkabfjknpjhonaa
open Go.RowKit Go.Maps P16 P46
attribute [local go_sem] ByteArray.mk_append_mk ByteArray.extract_mk mk_index

/-- A map from units to values. -/
def keysM (ks : List Int) (vals : Int → Value) : Lit → Option Value := fun x => match x with
  | .int .i64 a => if a ∈ ks then some (vals a) else none
  | _ => none
theorem keysM_in {ks : List Int} {vals : Int → Value} {u : Int} (h : u ∈ ks) : keysM ks vals (.int .i64 u) = some (vals u) := by simp [keysM, h]
theorem keysM_out {ks : List Int} {vals : Int → Value} {u : Int} (h : u ∉ ks) : keysM ks vals (.int .i64 u) = none := by simp [keysM, h]
theorem keysM_put (ks : List Int) (vals : Int → Value) (u : Int) (v : Value) (x : Lit) : putM (keysM ks vals) (.int .i64 u) v x = keysM (ks ++ [u]) (fun a => if a = u then v else vals a) x := by
  unfold putM
  split
  · rename_i h
    have := WideAt.sameKey_eq h
    subst this
    simp [keysM]
  · rename_i h
    unfold keysM
    split
    · rename_i a
      have hne : a ≠ u := fun e => h (by rw [e]; exact WideAt.sameKey_self (isKey_int u))
      simp [hne]
    · rfl
theorem keysM_del (ks : List Int) (vals : Int → Value) (u : Int) (x : Lit) : delM (keysM ks vals) (.int .i64 u) x = keysM (ks.filter fun k => decide (k ≠ u)) vals x := by
  unfold delM
  split
  · rename_i h
    have := WideAt.sameKey_eq h
    subst this
    simp [keysM]
  · rename_i h
    unfold keysM
    split
    · rename_i a
      have hne : a ≠ u := fun e => h (by rw [e]; exact WideAt.sameKey_self (isKey_int u))
      simp [hne]
    · rfl
theorem madeMapV (w : World) : ∃ (w2 : World) (b : Nat), w.alloc (.map #[] 0) = w2 ∧ w.heap.size = b ∧ Below w.heap.size w w2 ∧ MapV w2 Try.prog 3 b 0 (keysM [] (fun _ => undef)) := by
  refine ⟨_, _, rfl, rfl, below_alloc (Below.refl _ _) _, (MapV.made w Try.prog 3).ext (fun k => ?_)⟩
  unfold keysM
  split <;> simp
/-- The edges: for each unit of 'ks' the units that it waits for. -/
def EdgeM (w : World) (b n : Nat) (ks : List Int) (e : Int → List Int) : Prop := ∃ vals : Int → Value, MapV w Try.prog 3 b n (keysM ks vals) ∧ ∀ u ∈ ks, OwnI w (b + 1) (vals u) (e u)
section
variable {w w' : World} {b n : Nat} {ks : List Int} {e : Int → List Int}
theorem EdgeM.below (h : EdgeM w b n ks e) (hb : Below w.heap.size w w') : EdgeM w' b n ks e := by
  obtain ⟨vals, h1, h2⟩ := h
  exact ⟨vals, h1.below hb, fun u hu => (h2 u hu).below hb⟩
theorem own_out {v : Value} {xs : List Int} (h : OwnI w (b + 1) v xs) : v.ownBlock = none ∨ v.ownBlock ≠ some b := by
  rcases hv : v.ownBlock with _ | k
  · exact .inl rfl
  · refine .inr (fun e => ?_)
    injection e with e
    have := (h.lt k hv).1
    omega
theorem EdgeM.put {u : Int} {v : Value} {vals : Int → Value} (hm : MapV w' Try.prog 3 b (n + 1) (putM (keysM ks vals) (.int .i64 u) v)) (hg : w.grownBy w' (some b)) (hr : ∀ u ∈ ks, OwnI w (b + 1) (vals u) (e u)) (hv : OwnI w (b + 1) v (e u)) : EdgeM w' b (n + 1) (ks ++ [u]) e := by
  refine ⟨fun a => if a = u then v else vals a, hm.ext (keysM_put ks vals u v), fun a ha => ?_⟩
  show OwnI w' (b + 1) (if a = u then v else vals a) (e a)
  by_cases hau : a = u
  · subst hau
    rw [if_pos rfl]
    exact hv.kept hg (own_out hv)
  · rw [if_neg hau]
    have ha' : a ∈ ks := by
      rcases List.mem_append.1 ha with h | h
      · exact h
      · exact absurd (List.mem_singleton.1 h) hau
    exact (hr a ha').kept hg (own_out (hr a ha'))
theorem EdgeM.del {vals : Int → Value} {u : Int} (hm : MapV w' Try.prog 3 b n (delM (keysM ks vals) (.int .i64 u))) (hg : w.grownBy w' (some b)) (hr : ∀ u ∈ ks, OwnI w (b + 1) (vals u) (e u)) : EdgeM w' b n (ks.filter fun k => decide (k ≠ u)) e :=
  ⟨vals, hm.ext (keysM_del ks vals u), fun a ha => ((hr a (List.mem_filter.1 ha).1).kept hg (own_out (hr a (List.mem_filter.1 ha).1)))⟩
end
theorem EP.blockers {W wr : World} {B p C : Nat} {s : St} {v : Value} {us : List Int} (k : EP W wr B p C s v us) (u : Int) (hv : Valids s) (hl : s.h.length + s.q.length < 100000) :
    Calls Try.prog 15 #[.pointer (some ⟨p, 0, none⟩), .int .i64 u] wr fun e w' => ∃ v, e = .returned v ∧ OwnI w' wr.heap.size v (setL (P46.blockers s u)) ∧ Below wr.heap.size wr w' := by
  obtain ⟨vh, vq, hm, -⟩ := k
  exact lkBlockersFn u B p s.h s.q vh vq wr hm (by omega) hv
theorem EP.act {W wr : World} {B p C : Nat} {s : St} {v : Value} {us : List Int} (k : EP W wr B p C s v us) (a : ActL) (hg : P46.Good s) (hv : Valids s) (hl : s.h.length + s.q.length < 100000) :
    Calls Try.prog 14 #[.pointer (some ⟨p, 0, none⟩), av a] wr fun e w' => ∃ x, e = .returned (.tuple #[.int .i64 (act s a.kind a.l).2.1, x]) ∧ EP W w' B p C (act s a.kind a.l).1 v us := by
  obtain ⟨vh, vq, hm, -⟩ := id k
  obtain ⟨sh, sq⟩ := s
  refine (lkDo a B p sh sq vh vq wr hm hl hg hv).mono ?_
  rintro e2 w2 ⟨x, vh2, vq2, rfl, -, hm2, hv2, -⟩
  exact ⟨x, rfl, k.moved hm2 hv2⟩
theorem busy_some {s : St} (hg : P46.Good s) {u : Int} {i : Nat} (hi : idx s.q u = some i) : 0 < (setL (P46.blockers s u)).length := by
  obtain ⟨l, h1, -, h3, -⟩ := idx_some hi
  have hb := hg.busy _ l _ h3
  rw [blockers_some hi h1]
  obtain ⟨v, hv⟩ := List.exists_mem_of_ne_nil _ hb
  exact List.length_pos_of_mem (((setL_spec _).2 v).2 hv)
theorem frees_succ (e : Int → List Int) (us : List Int) : ∀ (n : Nat) (ks : List Int), frees e us (n + 1) ks = us.foldl (freeStep e) (frees e us n ks)
  | 0, _ => rfl
  | n + 1, ks => by
    rw [frees, frees_succ e us n, frees]
theorem freeSteps_take {e : Int → List Int} {ks us : List Int} {k : Nat} {u : Int} (h : us[k]? = some u) : (us.take (k + 1)).foldl (freeStep e) ks = freeStep e ((us.take k).foldl (freeStep e) ks) u := by
  rw [take_snoc h, List.foldl_append]
  rfl
theorem frees_none {s : St} (hg : P46.Good s) (us : List Int) : frees (fun u => setL (P46.blockers s u)) us us.length us = [] := by
  obtain ⟨rank, hr⟩ := hg.acyc
  exact frees_all (rank := rank) (fun u v hv => hr u v ((edge_blockers hg.ones).2 (((setL_spec _).2 v).1 hv))) (fun k hk => hk)
/-- The blockers of u that are left, where u is left. -/
def leftOf (ks : List Int) (e : Int → List Int) (u : Int) : List Int := if u ∈ ks then e u else []
theorem free_yes {e : Int → List Int} {ks : List Int} {u : Int} (h : ((leftOf ks e u).any fun b => decide (b ∈ ks)) = false) : freeStep e ks u = ks.filter fun k => decide (k ≠ u) := by
  unfold freeStep
  rw [if_neg]
  rintro ⟨h1, b, h2, h3⟩
  unfold leftOf at h
  rw [if_pos h1, List.any_eq_false] at h
  exact h b h2 (by simpa using h3)
theorem free_no {e : Int → List Int} {ks : List Int} {u : Int} (h : ((leftOf ks e u).any fun b => decide (b ∈ ks)) = true) : freeStep e ks u = ks := by
  unfold freeStep
  obtain ⟨b, h1, h2⟩ := List.any_eq_true.1 h
  unfold leftOf at h1
  by_cases hu : u ∈ ks
  · rw [if_pos hu] at h1
    rw [if_pos ⟨hu, b, h1, by simpa using h2⟩]
  · rw [if_neg hu] at h1
    cases h1
theorem any_snoc {bs ks : List Int} {q : Nat} {b : Int} (h : bs[q]? = some b) : ((bs.take (q + 1)).any fun b => decide (b ∈ ks)) = (((bs.take q).any fun b => decide (b ∈ ks)) || decide (b ∈ ks)) := by
  rw [take_snoc h, List.any_append]
  simp
theorem blockers_wf {s : St} (hv : Valids s) {u v : Int} (h : v ∈ P46.blockers s u) : (Lit.int .i64 v).wf = true := by
  unfold P46.blockers at h
  split at h
  · cases h
  · split at h
    · cases h
    · rename_i i hi l hl
      rcases mem_blks.1 h with ⟨y, hy, rfl, _⟩ | ⟨y, hy, rfl, _⟩
      · exact lit_num (valid_num (hv.1 y hy))
      · exact lit_num (valid_num (hv.2 y (List.mem_of_mem_take hy)))
/-- What the map gives at a unit. -/
theorem EdgeM.look {w : World} {b : Nat} {ks : List Int} {e : Int → List Int} (vals : Int → Value) (hr : ∀ u ∈ ks, OwnI w (b + 1) (vals u) (e u)) (u : Int) :
    ∃ A c, (keysM ks vals (.int .i64 u)).getD (.slice none 0 0) = .slice A (leftOf ks e u).length c ∧ IntsAt w A (leftOf ks e u).length (leftOf ks e u) := by
  unfold leftOf
  by_cases hu : u ∈ ks
  · rw [keysM_in hu, if_pos hu]
    obtain ⟨A, c, h1, h2, -⟩ := (hr u hu).cells
    exact ⟨A, c, h1, h2⟩
  · rw [keysM_out hu, if_neg hu]
    exact ⟨none, 0, rfl, IntsAt.nil⟩
theorem keysM_some (ks : List Int) (vals : Int → Value) (u : Int) : (keysM ks vals (.int .i64 u)).isSome = decide (u ∈ ks) := by
  by_cases hu : u ∈ ks
  · rw [keysM_in hu]; simp [hu]
  · rw [keysM_out hu]; simp [hu]
set_option maxRecDepth 100000 in
set_option maxHeartbeats 8000000 in
theorem lawAcyclic (A : Option Addr) (n c : Nat) (xs : List ActL) (W : World) (ha : ActsAt W A n xs) (hn : n ≤ maxLen) (hu : ∀ a ∈ xs, (Lit.int .i64 a.l.unit).wf = true) :
    Calls Try.prog 3 #[.slice A n c] W fun e w' => e = .returned (.bool true) ∧ Below W.heap.size W w' := by
  unfold maxLen at hn
  have HA := Lib.hid ha
  have HUW := Lib.hid hu
  clear ha hu
  cases hf : fewA xs 50 with
  | false =>
    have HF := Lib.hid hf
    clear hf
    go_enter Try.func3, Try.ntmps3
    go_wp2_with (first | (go_at_call 10; refine (lkFew 50 A n c xs W HA.out hn).mono ?_; rintro e w2 ⟨rfl, hb2⟩; rw [HF.out]; have HB2 := Lib.hid hb2; clear hb2) | (go_at_call 11; refine (lkAwake _).mono ?_; rintro e w3 ⟨rfl, hb3⟩; have HB3 := Lib.hid hb3; clear hb3))
    go_ret
    exact ⟨rfl, below_then HB2.out HB3.out⟩
  | true =>
    have HF := Lib.hid hf
    have hl50 := few_len hf
    rw [HA.out.len] at hl50
    have hnp := ptr_nil
    have hmm := @run_makeMap Try.prog
    have hlenA : (Try.prog.info? 34).map (·.size) = some 7 := by kernel_rfl
    clear hf
    go_enter Try.func3, Try.ntmps3
    go_wp2_with (go_at_call 10; refine (lkFew 50 A n c xs W HA.out hn).mono ?_; rintro e w2 ⟨rfl, hb2⟩; rw [HF.out]; have HB2 := Lib.hid hb2; clear hb2)
    refine (lkNew none 0 0 [] w2 LocksAt.nil (by omega)).mono ?_
    rintro e w3 ⟨p, vh3, rfl, hm3, hb3⟩
    have HM3 := Lib.hid (show Mgr w3 w2.heap.size p (playS (xs.take 0)).h (playS (xs.take 0)).q vh3 (.slice none 0 0) from hm3)
    have HB3 := Lib.hid hb3
    clear hm3 hb3
    go_wp2_with fail
    refine (lkUnits A n c xs _ (HA.out.below (HB2.out.trans (HB3.out.mono HB2.out.size))) (by omega)).mono ?_
    rintro e w4 ⟨v4, rfl, ho4, hb4⟩
    have hk4 : EP w2 w4 w2.heap.size p w3.heap.size (playS (xs.take 0)) v4 (setL (unitsA xs)) := ⟨vh3, _, HM3.out.below hb4, ho4, fun k hk hf => by
      have h1 := (HM3.out.ge (HM3.out.foot.2 ((HM3.out.below hb4).foot.1 hf))).2
      have h2 := (ho4.lt k hk).1
      omega, HB3.out.trans (hb4.mono HB3.out.size), Nat.le_trans HB3.out.size hb4.size⟩
    have hus50 : (setL (unitsA xs)).length ≤ 50 := by
      have h1 := setL_len (unitsA xs)
      have h2 : (unitsA xs).length = xs.length := List.length_map _
      have h3 := HA.out.len
      omega
    have HWF := Lib.hid (show ∀ u ∈ setL (unitsA xs), (Lit.int .i64 u).wf = true from fun u hu => by
      have h1 := ((setL_spec _).2 u).1 hu
      unfold unitsA at h1
      obtain ⟨a, ha, rfl⟩ := List.mem_map.1 h1
      exact HUW.out a ha)
    generalize setL (unitsA xs) = us at ho4 hk4 hus50 HWF
    obtain ⟨A4, c4, rfl, -, -⟩ := ho4.cells
    obtain ⟨m, hm⟩ : ∃ m, us.length = m := ⟨_, rfl⟩
    rw [hm] at hk4 hus50 ⊢
    have HMM := Lib.hid hm
    have HK4 := Lib.hid hk4
    have HZ := Lib.hid HB2.out.size
    clear hb4 ho4 hk4 hm
    go_upto_region 8 with (fail)
    go_loopw [30] (fun i wr => ∃ k : Nat, k ≤ n ∧ i = .int .i64 k ∧ EP w2 wr w2.heap.size p w3.heap.size (playS (xs.take k)) (.slice A4 m c4) us) (fun i _ => n - (intOf i).toNat)
    case atStart => exact ⟨0, Nat.zero_le _, rfl, HK4.out⟩
    case round =>
      obtain ⟨k, hk, rfl, hkp⟩ := hrel
      have HK := Lib.hid hkp
      clear hkp
      by_cases hlt : k < n
      · have hs := HA.out.below (HB2.out.trans ((by obtain ⟨_, _, _, _, _, hbw, _⟩ := HK.out; exact hbw.mono HZ.out)))
        obtain ⟨b, off, a, rfl, hx⟩ := hs.at_ hlt
        have HR := Lib.hid (hs.row hx)
        have HX := Lib.hid (playS_take hx)
        clear hs hx
        go_upto_region 10 with (refine wpList_load_cells rfl 34 (.tmp 32) rfl ⟨b, off + k * 7, none⟩ rfl _ _ HR.out Try.underlying34 rfl hlenA ?_)
        obtain ⟨w5, g5, e1, e2, hb5, h5⟩ := boxes1 wr 34 (aa a)
        unfold aa at e1
        rw [e1, e2]
        have HK5 := Lib.hid (HK.out.below hb5)
        have HC5 := Lib.hid h5.add
        have hl5 : (playS (xs.take k)).h.length + (playS (xs.take k)).q.length < 100000 := by
          have h1 := playS_len (xs.take k)
          have h2 := List.length_take_le k xs
          omega
        clear e1 e2 hb5 h5
        go_wp2_with (refine wpList_load_cells rfl 34 (.tmp 6) rfl ⟨g5, 0, none⟩ rfl _ _ HC5.out Try.underlying34 rfl hlenA ?_)
        refine (HK5.out.act a (playS_good _) (playS_valids _) hl5).mono ?_
        rintro e w6 ⟨x6, rfl, hk6⟩
        rw [← HX.out] at hk6
        have HK6 := Lib.hid hk6
        have HG := Lib.hid (playS_good (xs.take (k + 1)))
        have HV := Lib.hid (playS_valids (xs.take (k + 1)))
        have hl6 : (playS (xs.take (k + 1))).h.length + (playS (xs.take (k + 1))).q.length < 100000 := by
          have h1 := playS_len (xs.take (k + 1))
          have h2 := List.length_take_le (k + 1) xs
          omega
        clear hk6 hl5 HK HK5 HX
        generalize hs1 : playS (xs.take (k + 1)) = s1 at HK6 HG HV hl6
        have HS1 := Lib.hid hs1
        clear hs1
        go_upto_region 12 with (fail)
        obtain ⟨w7, bm, e1, e2, hb7, hmm7⟩ := madeMapV w6
        rw [e1, e2]
        have HE7 := Lib.hid (show EdgeM w7 bm 0 (us.take 0) (fun u => setL (P46.blockers s1 u)) from ⟨_, hmm7, fun u hu => by cases hu⟩)
        have HB7 := Lib.hid hb7
        have hbm : w6.heap.size ≤ bm := by omega
        clear e1 e2 hb7 hmm7
        go_wp2
        go_loopw [40] (fun i wr => ∃ j : Nat, j ≤ m ∧ i = .int .i64 j ∧ Below w6.heap.size w6 wr ∧ EdgeM wr bm j (us.take j) (fun u => setL (P46.blockers s1 u))) (fun i _ => m - (intOf i).toNat)
        case atStart => exact ⟨0, Nat.zero_le _, rfl, HB7.out, HE7.out⟩
        case round =>
          obtain ⟨j, hj, rfl, hb8, he8⟩ := hrel
          have HB8 := Lib.hid hb8
          have HE8 := Lib.hid he8
          have hz8 := hb8.size
          clear hb8 he8
          by_cases hlt2 : j < m
          · obtain ⟨-, -, -, ho, -⟩ := HK6.out.below HB8.out
            obtain ⟨b2, off2, u, rfl, hu, u0⟩ := ho.reads2.1.at_ hlt2
            have HTK := Lib.hid (take_snoc hu)
            have HUU := Lib.hid (HWF.out u (List.mem_of_getElem? hu))
            clear ho
            go_wp2_with fail
            refine ((HK6.out.below HB8.out).blockers u HV.out hl6).mono ?_
            rintro e w9 ⟨v9, rfl, ho9, hb9⟩
            obtain ⟨A9, c9, rfl, -, -⟩ := ho9.cells
            have HO9 := Lib.hid ho9
            have HB9 := Lib.hid (HB8.out.trans (hb9.mono hz8))
            have HE9 := Lib.hid (HE8.out.below hb9)
            have hbm9 : bm + 1 ≤ wr.heap.size := by
              obtain ⟨vals, h1, -⟩ := HE8.out
              have := h1.lt
              omega
            have HIN := Lib.hid (fun (i : Nat) (hi : idx s1.q u = some i) => busy_some HG.out hi)
            have HNO := Lib.hid (fun (hi : idx s1.q u = none) => show setL (P46.blockers s1 u) = [] from by rw [blockers_none hi]; rfl)
            obtain ⟨bl, hbl⟩ : ∃ bl, setL (P46.blockers s1 u) = bl := ⟨_, rfl⟩
            rw [hbl] at HO9 HIN HNO ⊢
            have HBL := Lib.hid hbl
            obtain ⟨m9, hm9⟩ : ∃ m9, bl.length = m9 := ⟨_, rfl⟩
            rw [hm9] at HO9 HIN ⊢
            have HM9 := Lib.hid hm9
            have hm9' : m9 ≤ 9223372036854775807 := by
              obtain ⟨A', c', h1, -, h3⟩ := HO9.out.cells
              unfold maxLen at h3
              omega
            obtain ⟨vals, hmv, hrw⟩ := HE9.out
            have HMV := Lib.hid hmv
            have HRW := Lib.hid hrw
            clear ho9 hb9 hbl hm9 hmv hrw u0
            go_wp2_with (refine wpList_mapV_put rfl (.tmp 44) (.tmp 45) (.tmp 48) _ rfl (int_keyed Try.underlying3) Try.underlying38 rfl HMV.out (by unfold maxLen; omega) (.int .i64 u) (.slice A9 m9 c9) (.int .i64 u) rfl rfl (keyOf_int_mk Try.underlying3 HUU.out) ?_; intro w10 hm10 hg10)
            have HE10 := Lib.hid (show EdgeM w10 bm (j + 1) (us.take (j + 1)) (fun u => setL (P46.blockers s1 u)) from by
              rw [HTK.out]
              exact EdgeM.put hm10 hg10 HRW.out (show OwnI _ _ _ (setL (P46.blockers s1 u)) from by rw [HBL.out]; exact HO9.out.base hbm9))
            have HM10 := Lib.hid hm10
            have HB10 := Lib.hid (HB9.out.grown hg10 HB9.out.size (fun kk hkk => by cases hkk; exact hbm))
            clear hm10 hg10 HMV HRW
            cases hi : idx s1.q u with
            | none =>
              have HI := Lib.hid hi
              have hbl0 : m9 = 0 := by
                have := HNO.out hi
                rw [← HM9.out, this]
                rfl
              subst hbl0
              clear hi HNO HIN
              refine ((HK6.out.below HB10.out).waits_none HI.out hl6).mono ?_
              rintro e w11 ⟨rfl, hb11⟩
              have HB11 := Lib.hid (HB10.out.trans (hb11.mono HB10.out.size))
              have HE11 := Lib.hid (HE10.out.below hb11)
              have HM11 := Lib.hid (HM10.out.below hb11)
              clear hb11
              unfold lv
              go_upto_region 17 with (fail)
              obtain ⟨w12, g12, e1, e2, hb12, -⟩ := boxes1 w11 32 (la zeroL)
              unfold la at e1
              rw [e1, e2]
              have HB12 := Lib.hid (HB11.out.trans (hb12.mono HB11.out.size))
              have HE12 := Lib.hid (HE11.out.below hb12)
              have HM12 := Lib.hid (HM11.out.below hb12)
              clear e1 e2 hb12
              go_wp2_with (refine wpList_mapV_look rfl (.tmp 56) (.tmp 57) _ rfl (int_keyed Try.underlying3) Try.underlying38 (z := .slice none 0 0) (by kernel_rfl) rfl HM12.out _ (.int .i64 u) rfl (keyOf_int_mk Try.underlying3 HUU.out) ?_; rw [show putM (keysM (us.take j) vals) (.int .i64 u) (.slice A9 0 c9) (.int .i64 u) = some (.slice A9 0 c9) from by unfold putM; rw [if_pos (WideAt.sameKey_self (isKey_int u))]]; rw [Option.getD_some])
              go_roundw
              case rel => exact ⟨j + 1, by omega, by go_num, HB12.out, HE12.out⟩
              case measure => simp [intOf]; omega
            | some i =>
              have HI := Lib.hid hi
              have hbl0 : (0 : Int) < (m9 : Int) := by
                have := HIN.out i hi
                omega
              have hbl1 : 0 < m9 := by omega
              have hbl2 : decide (0 < m9) = true := decide_eq_true hbl1
              clear hi HNO HIN
              refine ((HK6.out.below HB10.out).waits_some HI.out hl6).mono ?_
              rintro e w11 ⟨l11, rfl, hb11⟩
              have HB11 := Lib.hid (HB10.out.trans (hb11.mono HB10.out.size))
              have HE11 := Lib.hid (HE10.out.below hb11)
              have HM11 := Lib.hid (HM10.out.below hb11)
              clear hb11
              unfold lv
              go_upto_region 17 with (fail)
              obtain ⟨w12, g12, e1, e2, hb12, -⟩ := boxes1 w11 32 (la l11)
              unfold la at e1
              rw [e1, e2]
              have HB12 := Lib.hid (HB11.out.trans (hb12.mono HB11.out.size))
              have HE12 := Lib.hid (HE11.out.below hb12)
              have HM12 := Lib.hid (HM11.out.below hb12)
              clear e1 e2 hb12
              go_wp2_with (refine wpList_mapV_look rfl (.tmp 56) (.tmp 57) _ rfl (int_keyed Try.underlying3) Try.underlying38 (z := .slice none 0 0) (by kernel_rfl) rfl HM12.out _ (.int .i64 u) rfl (keyOf_int_mk Try.underlying3 HUU.out) ?_; rw [show putM (keysM (us.take j) vals) (.int .i64 u) (.slice A9 m9 c9) (.int .i64 u) = some (.slice A9 m9 c9) from by unfold putM; rw [if_pos (WideAt.sameKey_self (isKey_int u))]]; rw [Option.getD_some])
              go_roundw
              case rel => exact ⟨j + 1, by omega, by go_num, HB12.out, HE12.out⟩
              case measure => simp [intOf]; omega
          · have hjm : j = m := by omega
            subst hjm
            rw [List.take_of_length_le (by rw [HMM.out]; exact Nat.le_refl _)] at HE8
            have hzm := HB8.out
            clear hzm
            obtain ⟨wo, hwo⟩ : ∃ wo : World, wo = wr := ⟨_, rfl⟩
            clear hwo
            have HFN := Lib.hid (frees_none HG.out us)
            rw [HMM.out] at HFN
            go_wp2
            go_loopw [65] (fun i wr => ∃ r : Nat, r ≤ j ∧ i = .int .i64 r ∧ Below w6.heap.size w6 wr ∧ EdgeM wr bm j (frees (fun u => setL (P46.blockers s1 u)) us r us) (fun u => setL (P46.blockers s1 u))) (fun i _ => j - (intOf i).toNat)
            case atStart => exact ⟨0, Nat.zero_le _, rfl, HB8.out, HE8.out⟩
            case round =>
              obtain ⟨r, hr, rfl, hb13, he13⟩ := hrel
              have HB13 := Lib.hid hb13
              have HE13 := Lib.hid he13
              clear hb13 he13
              by_cases hlt3 : r < j
              · have HFS := Lib.hid (frees_succ (fun u => setL (P46.blockers s1 u)) us r us)
                generalize frees (fun u => setL (P46.blockers s1 u)) us r us = ks0 at HE13 HFS
                obtain ⟨wo2, hwo2⟩ : ∃ wo : World, wo = wr := ⟨_, rfl⟩
                clear hwo2
                go_wp2
                go_loopw [69] (fun i wr => ∃ t : Nat, t ≤ j ∧ i = .int .i64 t ∧ Below w6.heap.size w6 wr ∧ EdgeM wr bm j ((us.take t).foldl (freeStep (fun u => setL (P46.blockers s1 u))) ks0) (fun u => setL (P46.blockers s1 u))) (fun i _ => j - (intOf i).toNat)
                case atStart => exact ⟨0, Nat.zero_le _, rfl, HB13.out, HE13.out⟩
                case round =>
                  obtain ⟨t, ht, rfl, hb14, he14⟩ := hrel
                  have HB14 := Lib.hid hb14
                  have hz14 := hb14.size
                  have HE14 := Lib.hid he14
                  clear hb14 he14
                  by_cases hlt4 : t < j
                  · obtain ⟨-, -, -, ho, -⟩ := HK6.out.below HB14.out
                    obtain ⟨b2, off2, u, rfl, hu, u0⟩ := ho.reads2.1.at_ hlt4
                    have HTK := Lib.hid (freeSteps_take (e := fun u => setL (P46.blockers s1 u)) (ks := ks0) hu)
                    have HUU := Lib.hid (HWF.out u (List.mem_of_getElem? hu))
                    clear ho
                    generalize (us.take t).foldl (freeStep (fun u => setL (P46.blockers s1 u))) ks0 = ks at HE14 HTK
                    obtain ⟨vals, hmv, hrw⟩ := HE14.out
                    obtain ⟨A8, c8, hl8, hi8⟩ := EdgeM.look vals hrw u
                    have HMV := Lib.hid hmv
                    have HRW := Lib.hid hrw
                    have HL8 := Lib.hid hl8
                    obtain ⟨bs, hbs⟩ : ∃ bs, leftOf ks (fun u => setL (P46.blockers s1 u)) u = bs := ⟨_, rfl⟩
                    have HYES := Lib.hid (@free_yes (fun u => setL (P46.blockers s1 u)) ks u)
                    have HNOT := Lib.hid (@free_no (fun u => setL (P46.blockers s1 u)) ks u)
                    rw [hbs] at hi8 HL8 HYES HNOT
                    obtain ⟨n8, hn8⟩ : ∃ n8, bs.length = n8 := ⟨_, rfl⟩
                    rw [hn8] at hi8 HL8
                    have HI8 := Lib.hid hi8
                    have HN8 := Lib.hid hn8
                    have HBW := Lib.hid (show ∀ b ∈ bs, (Lit.int .i64 b).wf = true from fun b hb => by
                      rw [← hbs] at hb
                      unfold leftOf at hb
                      split at hb
                      · exact blockers_wf HV.out (((setL_spec _).2 b).1 hb)
                      · cases hb)
                    have hn8' : n8 ≤ 9223372036854775807 := by
                      have h1 := hi8.len
                      by_cases hin : u ∈ ks
                      · obtain ⟨A', c', h2, -, h3⟩ := (hrw u hin).cells
                        have h4 : (setL (P46.blockers s1 u)).length = n8 := by
                          rw [← hn8, ← hbs]
                          unfold leftOf
                          rw [if_pos hin]
                        unfold maxLen at h3
                        simp only at h3
                        omega
                      · have h4 : bs = [] := by
                          rw [← hbs]
                          unfold leftOf
                          rw [if_neg hin]
                        rw [h4] at hn8
                        simp at hn8
                        omega
                    clear hmv hrw hl8 hi8 hn8 hbs
                    go_wp2_with (refine wpList_mapV_look rfl (.tmp 73) (.tmp 74) _ rfl (int_keyed Try.underlying3) Try.underlying38 (z := .slice none 0 0) (by kernel_rfl) rfl HMV.out _ (.int .i64 u) rfl (keyOf_int_mk Try.underlying3 HUU.out) ?_; rw [HL8.out])
                    obtain ⟨wo3, hwo3⟩ : ∃ wo : World, wo = wr := ⟨_, rfl⟩
                    clear hwo3
                    have HAN := Lib.hid (show ∀ (q : Nat) (b : Int), bs[q]? = some b → ((bs.take (q + 1)).any fun b => decide (b ∈ ks)) = (((bs.take q).any fun b => decide (b ∈ ks)) || decide (b ∈ ks)) from fun q b h => any_snoc h)
                    go_loopw [14, 77] (fun f i wq => ∃ q : Nat, q ≤ n8 ∧ i = .int .i64 q ∧ f = .bool (!((bs.take q).any fun b => decide (b ∈ ks))) ∧ wq = wr) (fun _ i _ => n8 - (intOf i).toNat)
                    case atStart => exact ⟨0, Nat.zero_le _, rfl, rfl, rfl⟩
                    case round =>
                      obtain ⟨q, hq, rfl, rfl, rfl⟩ := hrel
                      by_cases hlt5 : q < n8
                      · obtain ⟨b3, off3, bb, rfl, hbb, bb0⟩ := HI8.out.at_ hlt5
                        have HBB := Lib.hid (HBW.out bb (List.mem_of_getElem? hbb))
                        have HSN := Lib.hid (HAN.out q bb hbb)
                        clear hbb
                        generalize ((bs.take q).any fun b => decide (b ∈ ks)) = fl at HSN ⊢
                        cases hin : decide (bb ∈ ks) with
                        | true =>
                          rw [hin, Bool.or_true] at HSN
                          go_wp2_with (refine wpList_mapV_ok rfl (.tmp 82) (.tmp 83) _ rfl (int_keyed Try.underlying3) Try.underlying38 (z := .slice none 0 0) (by kernel_rfl) rfl HMV.out _ (.int .i64 bb) rfl (keyOf_int_mk Try.underlying3 HBB.out) ?_; rw [keysM_some, hin])
                          go_roundw
                          case rel => exact ⟨q + 1, by omega, by go_num, by rw [HSN.out]; rfl, trivial⟩
                          case measure => simp [intOf]; omega
                        | false =>
                          rw [hin, Bool.or_false] at HSN
                          go_wp2_with (refine wpList_mapV_ok rfl (.tmp 82) (.tmp 83) _ rfl (int_keyed Try.underlying3) Try.underlying38 (z := .slice none 0 0) (by kernel_rfl) rfl HMV.out _ (.int .i64 bb) rfl (keyOf_int_mk Try.underlying3 HBB.out) ?_; rw [keysM_some, hin])
                          go_roundw
                          case rel => exact ⟨q + 1, by omega, by go_num, by rw [HSN.out], trivial⟩
                          case measure => simp [intOf]; omega
                      · have hqn : q = n8 := by omega
                        subst hqn
                        rw [show bs.take q = bs from List.take_of_length_le (by rw [HN8.out]; exact Nat.le_refl _)]
                        cases hfr : bs.any fun b => decide (b ∈ ks) with
                        | true =>
                          have HFR := Lib.hid (HNOT.out hfr)
                          clear hfr
                          go_wp2
                          go_roundw
                          case rel => exact ⟨t + 1, by omega, by go_num, HB14.out, by rw [HTK.out, HFR.out]; exact HE14.out⟩
                          case measure => simp [intOf]; omega
                        | false =>
                          have HFR := Lib.hid (HYES.out hfr)
                          clear hfr
                          go_wp2_with (refine wpList_mapV_del rfl (.tmp 90) (.tmp 91) _ rfl (int_keyed Try.underlying3) Try.underlying38 rfl HMV.out (.int .i64 u) (.int .i64 u) rfl (keyOf_int_mk Try.underlying3 HUU.out) ?_; intro w15 hm15 hg15)
                          have HE15 := Lib.hid (EdgeM.del hm15 hg15 HRW.out)
                          have HB15 := Lib.hid (HB14.out.grown hg15 HB14.out.size (fun kk hkk => by cases hkk; exact hbm))
                          clear hm15 hg15
                          go_wp2
                          go_roundw
                          case rel => exact ⟨t + 1, by omega, by go_num, HB15.out, by rw [HTK.out, HFR.out]; exact HE15.out⟩
                          case measure => simp [intOf]; omega
                  · have htj : t = j := by omega
                    subst htj
                    rw [List.take_of_length_le (by rw [HMM.out]; exact Nat.le_refl _), ← HFS.out] at HE14
                    go_wp2
                    go_roundw
                    case rel => exact ⟨r + 1, by omega, by go_num, HB14.out, HE14.out⟩
                    case measure => simp [intOf]; omega
              · have hrj : r = j := by omega
                subst hrj
                rw [HFN.out] at HE13
                obtain ⟨vals, hmv, -⟩ := HE13.out
                have HMV := Lib.hid hmv
                have HK13 := Lib.hid (HK6.out.below HB13.out)
                clear hmv
                go_wp2_with (refine wpList_mapV_len rfl (.tmp 94) _ rfl (int_keyed Try.underlying3) Try.underlying38 rfl HMV.out ?_; intro cc _ hcc; obtain rfl : cc = 0 := hcc [] List.nodup_nil (fun x => (by unfold keysM; split <;> simp)); clear hcc)
                go_roundw
                case rel => exact ⟨k + 1, by omega, by go_num, by rw [HS1.out]; exact HK13.out⟩
                case measure => simp [intOf]; omega
      · have hkn : k = n := by omega
        subst hkn
        go_wp2_with (go_at_call 11; refine (lkAwake _).mono ?_; rintro e w9 ⟨rfl, hb9⟩; have HK9 := Lib.hid (HK.out.below hb9); clear hb9)
        go_ret
        obtain ⟨_, _, _, _, _, hbw, _⟩ := HK9.out
        exact ⟨rfl, HB2.out.trans (hbw.mono HZ.out)⟩
end Go.Proofs.Ytkabfjknpjhonaa
