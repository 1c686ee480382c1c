/- The reference's Set, and units: numbers in increasing order, each once. -/
import Derived.Test.YtkabfjknpjhonaaLkSame
import Derived.Test.YtkabfjknpjhonaaLkActs
import Derived.Test.YtkabfjknpjhonaaKill
import Derived.Deep.DeepCutAuto
namespace Go.Proofs.Ytkabfjknpjhonaa
open Go.RowKit P16 P46
attribute [local go_sem] ByteArray.mk_append_mk ByteArray.extract_mk mk_index
attribute [local irreducible] wpQuiet

theorem ins_at {l : List Int} {x : Int} {j : Nat} (h : ∀ i y, i < j → l[i]? = some y → y < x) (h2 : ∀ y, l[j]? = some y → x ≤ y) : ins l x = if l[j]? = some x then l else l.take j ++ x :: l.drop j := by
  have e : l = l.take j ++ l.drop j := (List.take_append_drop j l).symm
  have hp : ∀ y ∈ l.take j, decide (y < x) = true := by
    intro y hy
    obtain ⟨i, hi⟩ := List.mem_iff_getElem?.1 hy
    rw [List.getElem?_take] at hi
    split at hi
    · rename_i hij
      simpa using h i y hij hi
    · cases hi
  have hh : (l.drop j).head? = l[j]? := by rw [List.head?_drop]
  have hd : (l.drop j).takeWhile (fun y => decide (y < x)) = [] ∧ (l.drop j).dropWhile (fun y => decide (y < x)) = l.drop j := by
    cases hc : l.drop j with
    | nil => simp
    | cons y r =>
      rw [hc] at hh
      have := h2 y hh.symm
      rw [List.takeWhile_cons_of_neg (by simpa using this), List.dropWhile_cons_of_neg (by simpa using this)]
      simp
  have ht : l.takeWhile (fun y => decide (y < x)) = l.take j := by
    conv => lhs; rw [e]
    rw [List.takeWhile_append_of_pos hp, hd.1, List.append_nil]
  have hw : l.dropWhile (fun y => decide (y < x)) = l.drop j := by
    conv => lhs; rw [e]
    rw [List.dropWhile_append_of_pos hp, hd.2]
  unfold ins
  rw [ht, hw, hh]
  split
  · exact e.symm
  · rfl
theorem setL_take {xs : List Int} {k : Nat} {x : Int} (h : xs[k]? = some x) : setL (xs.take (k + 1)) = ins (setL (xs.take k)) x := by
  unfold setL
  rw [take_snoc h, List.foldl_append]
  rfl
theorem ins_len (l : List Int) (x : Int) : (ins l x).length ≤ l.length + 1 := by
  have e := congrArg List.length (List.takeWhile_append_dropWhile (p := fun y => decide (y < x)) (l := l))
  rw [List.length_append] at e
  unfold ins
  split
  · rw [List.length_append]; omega
  · rw [List.length_append, List.length_cons]; omega
theorem setL_len (xs : List Int) : (setL xs).length ≤ xs.length := by
  have key : ∀ (xs a : List Int), (xs.foldl ins a).length ≤ a.length + xs.length := by
    intro xs
    induction xs with
    | nil => intro a; simp
    | cons x xs ih =>
      intro a
      have h1 := ih (ins a x)
      have h2 := ins_len a x
      rw [List.foldl_cons, List.length_cons]
      omega
  simpa [setL] using key xs []
theorem ints_one (xs : List Int) : ∀ u ∈ xs.map (Value.int .i64), u.oneCell' = true := by
  intro u hu
  obtain ⟨x, _, rfl⟩ := List.mem_map.1 hu
  rfl
theorem one_cells {w : World} {g : Nat} {t : TypeId} {cs : Array Value} {s : Nat} (h : Blk w g t cs) (hs : cs.size = s := by rfl) : CellsAt w (some ⟨g, 0, none⟩) 1 s cs.toList := by
  refine ⟨by simp [hs], fun j u hj => ⟨g, 0, rfl, ?_⟩⟩
  rw [Nat.zero_add, h.cell]
  simpa using hj
theorem OwnI.of_row {w : World} {B C n : Nat} {v : Value} {xs : List Int} (h : RowAt w B 3 1 n (xs.map (Value.int .i64)) v) (hC : C ≤ B) : OwnI w C v xs := by
  have hl : xs.length = n := by have := h.1; simpa using this
  subst hl
  exact OwnI.base h hC
theorem OwnI.empty (w : World) (B : Nat) (h : B ≤ w.heap.size) : OwnI (w.alloc (.cells #[] 3)) B (.slice (some ⟨w.heap.size, 0, none⟩) 0 0) [] := World.ownsRow_made w #[] 0 h (Nat.zero_le _) rfl
theorem OwnI.cap {w : World} {B : Nat} {A : Option Addr} {n c : Nat} {xs : List Int} (h : OwnI w B (.slice A n c) xs) : n ≤ c := by
  rcases h.2 with ⟨h1, _⟩ | ⟨g, cap, cur, h1, _, _, h2, _⟩
  · injection h1 with _ h3 h4
    omega
  · injection h1 with _ h3 h4
    omega
theorem OwnI.nilLen {w : World} {B : Nat} {A : Option Addr} {n c : Nat} {xs : List Int} (h : OwnI w B (.slice A n c) xs) : A = none → n = 0 := by
  intro e
  subst e
  rcases h.2 with ⟨h1, _⟩ | ⟨g, cap, cur, h1, _⟩
  · injection h1
  · injection h1 with h1
    cases h1
set_option maxRecDepth 100000 in
set_option maxHeartbeats 4000000 in
theorem refSet (A : Option Addr) (n c : Nat) (xs : List Int) (w : World) (h : IntsAt w A n xs) (hn : n ≤ 100000) :
    Calls Try.prog 33 #[.slice A n c] w fun e w' => ∃ v, e = .returned v ∧ OwnI w' w.heap.size v (setL xs) ∧ Below w.heap.size w w' := by
  have H := Lib.hid h
  have hl := h.len
  clear h
  obtain ⟨i0, hi0, hz0, hz1, hz2⟩ := info_parts infoI
  have HI := Lib.hid hi0
  have HZ0 := Lib.hid hz0
  have HZ1 := Lib.hid hz1
  have HZ2 := Lib.hid hz2
  clear hi0 hz0 hz1 hz2
  have HL := Lib.hid hl
  clear hl
  go_enter Try.func33, Try.ntmps33
  go_wp2
  go_loopw [3, 4] (fun v i wr => ∃ k : Nat, k ≤ n ∧ i = .int .i64 k ∧ OwnI wr w.heap.size v (setL (xs.take k)) ∧ Below w.heap.size w wr) (fun _ i _ => n - (intOf i).toNat)
  case atStart => exact ⟨0, Nat.zero_le _, rfl, OwnI.empty _ _ (Nat.le_refl _), below_alloc (Below.refl _ _) _⟩
  case round =>
    obtain ⟨k, hk, rfl, ho, hbw⟩ := hrel
    have HB := Lib.hid hbw
    have hsz := hbw.size
    clear hbw
    by_cases hlt : k < n
    · obtain ⟨b, off, x, rfl, hx, x0⟩ := (H.out.below HB.out).at_ hlt
      have HX0' := Lib.hid x0
      have HSN := Lib.hid (setL_take hx)
      obtain ⟨A3, c3, rfl, hs3, -⟩ := ho.cells
      have hlen : (setL (xs.take k)).length ≤ k := Nat.le_trans (setL_len _) (List.length_take_le _ _)
      generalize setL (xs.take k) = ys at ho hs3 hlen HSN ⊢
      obtain ⟨m, hm⟩ : ∃ m, ys.length = m := ⟨_, rfl⟩
      rw [hm] at ho hs3 hlen ⊢
      have HO := Lib.hid ho
      have HS3 := Lib.hid hs3
      have HM := Lib.hid hm
      have hcap := ho.cap
      clear hx x0 ho hs3 hm
      have i0' : (0 : Int) ≤ (k : Int) := by omega
      have i1' : (k : Int) < (n : Int) := by omega
      obtain ⟨wo, hwo⟩ : ∃ wo : World, wo = wr := ⟨_, rfl⟩
      rw [← hwo] at HX0' HO HS3 HB hsz ⊢
      clear hwo wr
      go_wp2
      go_loopw [5] (fun t wr => ∃ j : Nat, j ≤ m ∧ t = .int .i64 j ∧ Hid (∀ i y, i < j → ys[i]? = some y → y < x) ∧ Below wo.heap.size wo wr) (fun t _ => m - (intOf t).toNat)
      case atStart => exact ⟨0, Nat.zero_le _, rfl, fun i y hi => absurd hi (by omega), Below.refl _ _⟩
      case round =>
        obtain ⟨j, hj, rfl, hall, hbo⟩ := hrel
        have HBO := Lib.hid hbo
        have hx0 : wr.cell? ⟨b, off + k, none⟩ = some (.int .i64 x) := by rw [hbo.cell (p := ⟨b, off + k, none⟩) (World.block_lt_of_cell? wo _ HX0'.out)]; exact HX0'.out
        have HX0w := Lib.hid hx0
        clear hbo
        by_cases hjm : j < m
        · obtain ⟨b3, o3, y, rfl, hy, y0⟩ := (HS3.out.below HBO.out).at_ hjm
          have HY := Lib.hid hy
          have HY0w := Lib.hid y0
          clear hy
          have j0 : (0 : Int) ≤ (j : Int) := by omega
          have j1 : (j : Int) < (m : Int) := by omega
          by_cases hyx : y < x
          · have b1 : decide (y < x) = true := decide_eq_true hyx
            go_upto_region 6 with (fail)
            go_quiet (fail)
            have HB5 := Lib.hid (HBO.out.trans ((below_drewN (Below.refl wr.heap.size wr) nq).mono HBO.out.size))
            generalize wr.drewN nq = w6 at HB5 ⊢
            clear y0 hx0 b1
            have HYX := Lib.hid hyx
            clear hyx
            go_wp2
            go_roundw
            case rel =>
              refine ⟨j + 1, by omega, by go_num, ?_, HB5.out⟩
              intro i y' hi hy'
              by_cases hij : i = j
              · subst hij
                have := HY.out.symm.trans hy'
                simp only [Option.some.injEq] at this
                rw [← this]
                exact HYX.out
              · exact hall.out i y' (by omega) hy'
            case measure => simp [intOf]; omega
          · have b1 : decide (y < x) = false := decide_eq_false hyx
            have hle : x ≤ y := by omega
            have HINS0 := Lib.hid (ins_at hall.out (fun y' hy' => by
              have := HY.out.symm.trans hy'
              simp only [Option.some.injEq] at this
              rw [← this]
              exact hle))
            rw [HY.out] at HINS0
            go_upto_region 6 with (fail)
            go_quiet (fail)
            have HB5 := Lib.hid (HBO.out.trans ((below_drewN (Below.refl wr.heap.size wr) nq).mono HBO.out.size))
            have hx6 : (wr.drewN nq).cell? ⟨b, off + k, none⟩ = some (.int .i64 x) := hx0
            have hy6 : (wr.drewN nq).cell? ⟨b3, o3 + j, none⟩ = some (.int .i64 y) := y0
            generalize wr.drewN nq = w6 at HB5 hx6 hy6 ⊢
            clear y0 hx0 b1 hle HX0w HY0w
            by_cases hxy : y = x
            · have b2 : (y == x) = true := beq_of hxy
              have HEQ := Lib.hid (show ins ys x = ys from by have := HINS0.out; rw [if_pos (by rw [hxy])] at this; exact this)
              clear hxy hyx
              go_wp2
              go_quiet (fail)
              have HB7 := Lib.hid (HB5.out.trans ((below_drewN (Below.refl w6.heap.size w6) nq).mono HB5.out.size))
              generalize w6.drewN nq = w7 at HB7 ⊢
              clear hx6 hy6 b2
              have HO7 := Lib.hid (HO.out.below HB7.out)
              have HBB := Lib.hid (HB.out.trans (HB7.out.mono hsz))
              go_wp2
              go_roundw
              case rel => exact ⟨k + 1, by omega, by go_num, by rw [HSN.out, HEQ.out]; exact HO7.out, HBB.out⟩
              case measure => simp [intOf]; omega
            · have b2 : (y == x) = false := beq_not hxy
              have HINS := Lib.hid (show ins ys x = ys.take j ++ x :: ys.drop j from by have := HINS0.out; rw [if_neg (fun e => hxy (by injection e))] at this; exact this)
              clear hxy hyx
              go_wp2
              go_quiet (fail)
              have HB7 := Lib.hid (HB5.out.trans ((below_drewN (Below.refl w6.heap.size w6) nq).mono HB5.out.size))
              have HX0 := Lib.hid (show (w6.drewN nq).cell? ⟨b, off + k, none⟩ = some (.int .i64 x) from hx6)
              generalize w6.drewN nq = wz at HB7 HX0 ⊢
              clear hx6 hy6 b2 HINS0 HY j0 j1
              generalize (some ⟨b3, o3, none⟩ : Option Addr) = A3 at HS3 HO ⊢
              have hjm : j ≤ m := hj
              have hjc : j ≤ c3 := by omega
              have HZ9 := Lib.hid (show w.heap.size ≤ wz.heap.size from Nat.le_trans hsz HB7.out.size)
              have HB9 := Lib.hid (HB.out.trans (HB7.out.mono hsz))
              have HSZ := Lib.hid (HS3.out.below HB7.out)
              have HOZ := Lib.hid (HO.out.below HB7.out)
              have HP := Lib.hid (show CellsAt wz A3 j 1 ((ys.take j).map (Value.int .i64)) from by
                have := CellsAt.pre HSZ.out hjm
                rwa [Nat.mul_one, ← List.map_take] at this)
              have HDR := Lib.hid (show CellsAt wz (if c3 = j then A3 else A3.map (·.add (j * 1))) (m - j) 1 ((ys.drop j).map (Value.int .i64)) from by
                have := CellsAt.cut HSZ.out hjm hcap
                have e : (ys.map (Value.int .i64)).drop (j * 1) = (ys.drop j).map (Value.int .i64) := by rw [Nat.mul_one, List.map_drop]
                rw [e] at this
                exact this)
              have HND := Lib.hid (show (if c3 = j then A3 else A3.map (·.add (j * 1))) = none → m - j = 0 from by
                intro e
                have h0 : A3 = none := by
                  split at e
                  · exact e
                  · simpa using e
                have := HOZ.out.nilLen h0
                omega)
              go_wp2
              refine wp_region_kill 8 14 (by kernel_rfl) (by kernel_rfl) (fun i => match i with | 0 => some 10 | 4 => some 10 | 9 => some 10 | _ => none) (RK wz.heap.size 10) (fun w1 => Below wz.heap.size wz w1)
                (fun i v w1 => match i with
                  | 0 => EmptyAt w1 wz.heap.size 3 v
                  | 1 => v = .slice A3 m c3
                  | 2 => v = .int .i64 j
                  | 3 => v = .slice A3 j c3
                  | 4 => RowAt w1 wz.heap.size 3 1 j ((ys.take j).map (Value.int .i64)) v
                  | 5 => v = .slice (some ⟨b, off, none⟩) n c
                  | 6 => v = .int .i64 k
                  | 7 => v = .pointer (some ⟨b, off + k, none⟩)
                  | 8 => v = .int .i64 x
                  | 9 => OneAt w1 3 #[.int .i64 x] v
                  | 10 => RowAt w1 wz.heap.size 3 1 (j + 1) ((ys.take j).map (Value.int .i64) ++ [.int .i64 x]) v
                  | 11 => v = .slice A3 m c3
                  | 12 => v = .int .i64 j
                  | 13 => v = .slice (if c3 = j then A3 else A3.map (·.add (j * 1))) (m - j) (c3 - j)
                  | _ => True) (fun _ _ _ h1 h2 => RK.keep h1 h2) ?_ ((Below.refl _ _).drew) ?_ ?_
              · intro kk ii vv w1 w2 hik hk hf hR
                match ii, hik, hk, hf with
                | 0, _, hk, hf => exact EmptyAt.below hf (RK.at_ hR (fun e => hk (by subst e; rfl)))
                | 1, _, _, hf => exact hf
                | 2, _, _, hf => exact hf
                | 3, _, _, hf => exact hf
                | 4, _, hk, hf => exact RowAt.below hf (RK.at_ hR (fun e => hk (by subst e; rfl)))
                | 5, _, _, hf => exact hf
                | 6, _, _, hf => exact hf
                | 7, _, _, hf => exact hf
                | 8, _, _, hf => exact hf
                | 9, _, hk, hf => exact OneAt.below hf (RK.at_ hR (fun e => hk (by subst e; rfl)))
                | 10, hik, _, hf => exact RowAt.below hf (RK.at_ hR (Ne.symm hik))
                | 11, _, _, hf => exact hf
                | 12, _, _, hf => exact hf
                | 13, _, _, hf => exact hf
                | n + 14, _, _, _ => trivial
              · refine allOps_cons ?_ (allOps_cons ?_ (allOps_cons ?_ (allOps_cons ?_ (allOps_cons ?_ (allOps_cons ?_ (allOps_cons ?_ (allOps_cons ?_ (allOps_cons ?_ (allOps_cons ?_ (allOps_cons ?_ (allOps_cons ?_ (allOps_cons ?_ (allOps_cons ?_ allOps_nil)))))))))))))
                · intro u w1 hC hd K hK
                  simp only [List.take_succ_cons, List.take_zero, putAll, Act.put, List.setIfInBounds_toArray, List.set_cons_succ, List.set_cons_zero, Nat.zero_add, Nat.reduceAdd] at hK ⊢
                  go_simp
                  exact hK _ _ (RK.below (below_alloc (Below.refl _ _) _) (by decide)) (EmptyAt.new _ _ hC.size)
                · intro u w1 hC hd K hK
                  simp only [List.take_succ_cons, List.take_zero, putAll, Act.put, List.setIfInBounds_toArray, List.set_cons_succ, List.set_cons_zero, Nat.zero_add, Nat.reduceAdd] at hK ⊢
                  go_simp
                  exact hK _ _ (RK.same (by decide)) rfl
                · intro u w1 hC hd K hK
                  simp only [List.take_succ_cons, List.take_zero, putAll, Act.put, List.setIfInBounds_toArray, List.set_cons_succ, List.set_cons_zero, Nat.zero_add, Nat.reduceAdd] at hK ⊢
                  go_simp
                  exact hK _ _ (RK.same (by decide)) rfl
                · intro u w1 hC hd K hK
                  have h1 : u 1 = .slice A3 m c3 := hd 1 rfl rfl
                  have h2 : u 2 = .int .i64 j := hd 2 rfl rfl
                  simp only [List.take_succ_cons, List.take_zero, putAll, Act.put, List.setIfInBounds_toArray, List.set_cons_succ, List.set_cons_zero, Nat.zero_add, Nat.reduceAdd, h1, h2] at hK ⊢
                  rw [if_pos (show Region.wanted _ _ = true from rfl)]
                  exact wp_slice_to 27 (.tmp 46) (.tmp 47) rfl Try.underlying27 1 (fun _ => by kernel_rfl) A3 m c3 j rfl rfl hjc (hK _ _ (RK.same (by decide)) rfl)
                · intro u w1 hC hd K hK
                  have h3 : u 3 = .slice A3 j c3 := hd 3 rfl rfl
                  obtain ⟨g, hg0, hg1, hg2⟩ := hd 0 rfl rfl
                  simp only [List.take_succ_cons, List.take_zero, putAll, Act.put, List.setIfInBounds_toArray, List.set_cons_succ, List.set_cons_zero, Nat.zero_add, Nat.reduceAdd, h3] at hK ⊢
                  rw [if_pos (show Region.wanted _ _ = true from rfl)]
                  refine wp_append_empty w1 (.tmp 45) (.tmp 48) 27 rfl 3 i0 _ 1 8 Try.underlying27 HI.out HZ0.out HZ1.out HZ2.out rfl (by omega) g wz.heap.size hg0 hg1 hg2 A3 j c3 _ rfl (HP.out.below hC) (ints_one _) (by unfold maxLen; omega) (by omega) ?_
                  intro v' w2 hown2 hb2
                  exact hK v' w2 (RK.below hb2 (by decide)) hown2
                · intro u w1 hC hd K hK
                  simp only [List.take_succ_cons, List.take_zero, putAll, Act.put, List.setIfInBounds_toArray, List.set_cons_succ, List.set_cons_zero, Nat.zero_add, Nat.reduceAdd] at hK ⊢
                  go_simp
                  exact hK _ _ (RK.same (by decide)) rfl
                · intro u w1 hC hd K hK
                  simp only [List.take_succ_cons, List.take_zero, putAll, Act.put, List.setIfInBounds_toArray, List.set_cons_succ, List.set_cons_zero, Nat.zero_add, Nat.reduceAdd] at hK ⊢
                  go_simp
                  exact hK _ _ (RK.same (by decide)) rfl
                · intro u w1 hC hd K hK
                  have h5 : u 5 = .slice (some ⟨b, off, none⟩) n c := hd 5 rfl rfl
                  have h6 : u 6 = .int .i64 k := hd 6 rfl rfl
                  simp only [List.take_succ_cons, List.take_zero, putAll, Act.put, List.setIfInBounds_toArray, List.set_cons_succ, List.set_cons_zero, Nat.zero_add, Nat.reduceAdd, h5, h6] at hK ⊢
                  go_simp
                  exact hK _ _ (RK.same (by decide)) rfl
                · intro u w1 hC hd K hK
                  have h7 : u 7 = .pointer (some ⟨b, off + k, none⟩) := hd 7 rfl rfl
                  have hc1 : w1.cell? ⟨b, off + k, none⟩ = some (.int .i64 x) := by rw [hC.cell (p := ⟨b, off + k, none⟩) (World.block_lt_of_cell? wz _ HX0.out)]; exact HX0.out
                  simp only [List.take_succ_cons, List.take_zero, putAll, Act.put, List.setIfInBounds_toArray, List.set_cons_succ, List.set_cons_zero, Nat.zero_add, Nat.reduceAdd, h7] at hK ⊢
                  go_simp
                  exact hK _ _ (RK.same (by decide)) rfl
                · intro u w1 hC hd K hK
                  have h8 : u 8 = .int .i64 x := hd 8 rfl rfl
                  simp only [List.take_succ_cons, List.take_zero, putAll, Act.put, List.setIfInBounds_toArray, List.set_cons_succ, List.set_cons_zero, Nat.zero_add, Nat.reduceAdd, h8] at hK ⊢
                  go_simp
                  exact hK _ _ (RK.below (below_alloc (Below.refl _ _) _) (by decide)) (OneAt.new _ _ _)
                · intro u w1 hC hd K hK
                  have h4 : RowAt w1 wz.heap.size 3 1 j ((ys.take j).map (Value.int .i64)) (u 4) := hd 4 rfl rfl
                  obtain ⟨g, hg0, hg1⟩ := hd 9 rfl rfl
                  simp only [List.take_succ_cons, List.take_zero, putAll, Act.put, List.setIfInBounds_toArray, List.set_cons_succ, List.set_cons_zero, Nat.zero_add, Nat.reduceAdd] at hK ⊢
                  rw [if_pos (show Region.wanted _ _ = true from rfl)]
                  refine wp_append_own (.tmp 49) (.tmp 54) 27 rfl wz.heap.size 3 i0 _ 1 8 Try.underlying27 HI.out HZ0.out HZ1.out HZ2.out rfl (by omega) (u 4) j _ rfl h4 (some ⟨g, 0, none⟩) 1 1 [.int .i64 x] hg0 (fun e => by cases e) (one_cells hg1) (ints_one [x]) (by unfold maxLen; omega) (by omega) hC.size ?_
                  intro v' w2 hr hg
                  exact hK v' w2 (RK.grown hg (row_base h4)) hr
                · intro u w1 hC hd K hK
                  simp only [List.take_succ_cons, List.take_zero, putAll, Act.put, List.setIfInBounds_toArray, List.set_cons_succ, List.set_cons_zero, Nat.zero_add, Nat.reduceAdd] at hK ⊢
                  go_simp
                  exact hK _ _ (RK.same (by decide)) rfl
                · intro u w1 hC hd K hK
                  simp only [List.take_succ_cons, List.take_zero, putAll, Act.put, List.setIfInBounds_toArray, List.set_cons_succ, List.set_cons_zero, Nat.zero_add, Nat.reduceAdd] at hK ⊢
                  go_simp
                  exact hK _ _ (RK.same (by decide)) rfl
                · intro u w1 hC hd K hK
                  have h11 : u 11 = .slice A3 m c3 := hd 11 rfl rfl
                  have h12 : u 12 = .int .i64 j := hd 12 rfl rfl
                  simp only [List.take_succ_cons, List.take_zero, putAll, Act.put, List.setIfInBounds_toArray, List.set_cons_succ, List.set_cons_zero, Nat.zero_add, Nat.reduceAdd, h11, h12] at hK ⊢
                  rw [if_pos (show Region.wanted _ _ = true from rfl)]
                  exact wp_slice_from 27 (.tmp 56) (.tmp 57) rfl Try.underlying27 1 (fun _ => by kernel_rfl) A3 m c3 j rfl rfl hjm (hK _ _ (RK.same (by decide)) rfl)
              · intro u wt hC hf
                have h10 : RowAt wt wz.heap.size 3 1 (j + 1) ((ys.take j).map (Value.int .i64) ++ [.int .i64 x]) (u 10) := hf 10 (by omega) rfl
                have h13 : u 13 = .slice (if c3 = j then A3 else A3.map (·.add (j * 1))) (m - j) (c3 - j) := hf 13 (by omega) rfl
                have HC := Lib.hid hC
                simp only [List.take_succ_cons, List.take_zero, List.drop_succ_cons, List.drop_zero, putAll, Act.put, List.setIfInBounds_toArray, List.set_cons_succ, List.set_cons_zero, Nat.zero_add, Nat.reduceAdd, h13]
                clear hC hf h13
                refine wpList_plain rfl (fun K hK => ?_)
                refine wp_append_own (.tmp 55) (.tmp 58) 27 rfl wz.heap.size 3 i0 _ 1 8 Try.underlying27 HI.out HZ0.out HZ1.out HZ2.out rfl (by omega) (u 10) (j + 1) _ rfl h10 _ (m - j) (c3 - j) _ rfl HND.out (HDR.out.below HC.out) (ints_one _) (by unfold maxLen; omega) (by omega) HC.out.size ?_
                intro v' w2 hr hg
                refine hK _ _ ?_
                clear hK K
                have HR2 := Lib.hid (OwnI.of_row (C := w.heap.size) (xs := ys.take j ++ x :: ys.drop j) (by simpa using hr) HZ9.out)
                have HB2 := Lib.hid (HB9.out.trans ((HC.out.grown hg HC.out.size (row_base h10)).mono HZ9.out))
                clear h10 hr hg HC
                go_wp2
                go_roundw
                case rel => exact ⟨k + 1, by omega, by go_num, by rw [HSN.out, HINS.out]; exact HR2.out, HB2.out⟩
                case measure => simp [intOf]; omega
        · have hjm2 : j = m := by omega
          have j1 : ¬ (j : Int) < (m : Int) := by omega
          have HINS := Lib.hid (show ins ys x = ys.take j ++ x :: ys.drop j from by
            have hnone : ys[j]? = none := List.getElem?_eq_none (by rw [HM.out]; omega)
            have := ins_at hall.out (fun y' hy' => by rw [hnone] at hy'; cases hy')
            rw [hnone] at this
            simpa using this)
          have HJM := Lib.hid hjm2
          clear hjm2
          go_upto_region 6 with (fail)
          go_quiet (fail)
          have HB5 := Lib.hid (HBO.out.trans ((below_drewN (Below.refl wr.heap.size wr) nq).mono HBO.out.size))
          have hx6 : (wr.drewN nq).cell? ⟨b, off + k, none⟩ = some (.int .i64 x) := hx0
          generalize wr.drewN nq = w6 at HB5 hx6 ⊢
          clear hx0 HX0w
          go_wp2
          go_quiet (fail)
          have HB7 := Lib.hid (HB5.out.trans ((below_drewN (Below.refl w6.heap.size w6) nq).mono HB5.out.size))
          have HX0 := Lib.hid (show (w6.drewN nq).cell? ⟨b, off + k, none⟩ = some (.int .i64 x) from hx6)
          generalize w6.drewN nq = wz at HB7 HX0 ⊢
          clear hx6 hjm j1
          have hjm : j ≤ m := hj
          have hjc : j ≤ c3 := by omega
          have HZ9 := Lib.hid (show w.heap.size ≤ wz.heap.size from Nat.le_trans hsz HB7.out.size)
          have HB9 := Lib.hid (HB.out.trans (HB7.out.mono hsz))
          have HSZ := Lib.hid (HS3.out.below HB7.out)
          have HOZ := Lib.hid (HO.out.below HB7.out)
          have HP := Lib.hid (show CellsAt wz A3 j 1 ((ys.take j).map (Value.int .i64)) from by
            have := CellsAt.pre HSZ.out hjm
            rwa [Nat.mul_one, ← List.map_take] at this)
          have HDR := Lib.hid (show CellsAt wz (if c3 = j then A3 else A3.map (·.add (j * 1))) (m - j) 1 ((ys.drop j).map (Value.int .i64)) from by
            have := CellsAt.cut HSZ.out hjm hcap
            have e : (ys.map (Value.int .i64)).drop (j * 1) = (ys.drop j).map (Value.int .i64) := by rw [Nat.mul_one, List.map_drop]
            rw [e] at this
            exact this)
          have HND := Lib.hid (show (if c3 = j then A3 else A3.map (·.add (j * 1))) = none → m - j = 0 from by
            intro e
            have h0 : A3 = none := by
              split at e
              · exact e
              · simpa using e
            have := HOZ.out.nilLen h0
            omega)
          go_wp2
          refine wp_region_kill 8 14 (by kernel_rfl) (by kernel_rfl) (fun i => match i with | 0 => some 10 | 4 => some 10 | 9 => some 10 | _ => none) (RK wz.heap.size 10) (fun w1 => Below wz.heap.size wz w1)
            (fun i v w1 => match i with
              | 0 => EmptyAt w1 wz.heap.size 3 v
              | 1 => v = .slice A3 m c3
              | 2 => v = .int .i64 j
              | 3 => v = .slice A3 j c3
              | 4 => RowAt w1 wz.heap.size 3 1 j ((ys.take j).map (Value.int .i64)) v
              | 5 => v = .slice (some ⟨b, off, none⟩) n c
              | 6 => v = .int .i64 k
              | 7 => v = .pointer (some ⟨b, off + k, none⟩)
              | 8 => v = .int .i64 x
              | 9 => OneAt w1 3 #[.int .i64 x] v
              | 10 => RowAt w1 wz.heap.size 3 1 (j + 1) ((ys.take j).map (Value.int .i64) ++ [.int .i64 x]) v
              | 11 => v = .slice A3 m c3
              | 12 => v = .int .i64 j
              | 13 => v = .slice (if c3 = j then A3 else A3.map (·.add (j * 1))) (m - j) (c3 - j)
              | _ => True) (fun _ _ _ h1 h2 => RK.keep h1 h2) ?_ ((Below.refl _ _).drew) ?_ ?_
          · intro kk ii vv w1 w2 hik hk hf hR
            match ii, hik, hk, hf with
            | 0, _, hk, hf => exact EmptyAt.below hf (RK.at_ hR (fun e => hk (by subst e; rfl)))
            | 1, _, _, hf => exact hf
            | 2, _, _, hf => exact hf
            | 3, _, _, hf => exact hf
            | 4, _, hk, hf => exact RowAt.below hf (RK.at_ hR (fun e => hk (by subst e; rfl)))
            | 5, _, _, hf => exact hf
            | 6, _, _, hf => exact hf
            | 7, _, _, hf => exact hf
            | 8, _, _, hf => exact hf
            | 9, _, hk, hf => exact OneAt.below hf (RK.at_ hR (fun e => hk (by subst e; rfl)))
            | 10, hik, _, hf => exact RowAt.below hf (RK.at_ hR (Ne.symm hik))
            | 11, _, _, hf => exact hf
            | 12, _, _, hf => exact hf
            | 13, _, _, hf => exact hf
            | n + 14, _, _, _ => trivial
          · refine allOps_cons ?_ (allOps_cons ?_ (allOps_cons ?_ (allOps_cons ?_ (allOps_cons ?_ (allOps_cons ?_ (allOps_cons ?_ (allOps_cons ?_ (allOps_cons ?_ (allOps_cons ?_ (allOps_cons ?_ (allOps_cons ?_ (allOps_cons ?_ (allOps_cons ?_ allOps_nil)))))))))))))
            · intro u w1 hC hd K hK
              simp only [List.take_succ_cons, List.take_zero, putAll, Act.put, List.setIfInBounds_toArray, List.set_cons_succ, List.set_cons_zero, Nat.zero_add, Nat.reduceAdd] at hK ⊢
              go_simp
              exact hK _ _ (RK.below (below_alloc (Below.refl _ _) _) (by decide)) (EmptyAt.new _ _ hC.size)
            · intro u w1 hC hd K hK
              simp only [List.take_succ_cons, List.take_zero, putAll, Act.put, List.setIfInBounds_toArray, List.set_cons_succ, List.set_cons_zero, Nat.zero_add, Nat.reduceAdd] at hK ⊢
              go_simp
              exact hK _ _ (RK.same (by decide)) rfl
            · intro u w1 hC hd K hK
              simp only [List.take_succ_cons, List.take_zero, putAll, Act.put, List.setIfInBounds_toArray, List.set_cons_succ, List.set_cons_zero, Nat.zero_add, Nat.reduceAdd] at hK ⊢
              go_simp
              exact hK _ _ (RK.same (by decide)) rfl
            · intro u w1 hC hd K hK
              have h1 : u 1 = .slice A3 m c3 := hd 1 rfl rfl
              have h2 : u 2 = .int .i64 j := hd 2 rfl rfl
              simp only [List.take_succ_cons, List.take_zero, putAll, Act.put, List.setIfInBounds_toArray, List.set_cons_succ, List.set_cons_zero, Nat.zero_add, Nat.reduceAdd, h1, h2] at hK ⊢
              rw [if_pos (show Region.wanted _ _ = true from rfl)]
              exact wp_slice_to 27 (.tmp 46) (.tmp 47) rfl Try.underlying27 1 (fun _ => by kernel_rfl) A3 m c3 j rfl rfl hjc (hK _ _ (RK.same (by decide)) rfl)
            · intro u w1 hC hd K hK
              have h3 : u 3 = .slice A3 j c3 := hd 3 rfl rfl
              obtain ⟨g, hg0, hg1, hg2⟩ := hd 0 rfl rfl
              simp only [List.take_succ_cons, List.take_zero, putAll, Act.put, List.setIfInBounds_toArray, List.set_cons_succ, List.set_cons_zero, Nat.zero_add, Nat.reduceAdd, h3] at hK ⊢
              rw [if_pos (show Region.wanted _ _ = true from rfl)]
              refine wp_append_empty w1 (.tmp 45) (.tmp 48) 27 rfl 3 i0 _ 1 8 Try.underlying27 HI.out HZ0.out HZ1.out HZ2.out rfl (by omega) g wz.heap.size hg0 hg1 hg2 A3 j c3 _ rfl (HP.out.below hC) (ints_one _) (by unfold maxLen; omega) (by omega) ?_
              intro v' w2 hown2 hb2
              exact hK v' w2 (RK.below hb2 (by decide)) hown2
            · intro u w1 hC hd K hK
              simp only [List.take_succ_cons, List.take_zero, putAll, Act.put, List.setIfInBounds_toArray, List.set_cons_succ, List.set_cons_zero, Nat.zero_add, Nat.reduceAdd] at hK ⊢
              go_simp
              exact hK _ _ (RK.same (by decide)) rfl
            · intro u w1 hC hd K hK
              simp only [List.take_succ_cons, List.take_zero, putAll, Act.put, List.setIfInBounds_toArray, List.set_cons_succ, List.set_cons_zero, Nat.zero_add, Nat.reduceAdd] at hK ⊢
              go_simp
              exact hK _ _ (RK.same (by decide)) rfl
            · intro u w1 hC hd K hK
              have h5 : u 5 = .slice (some ⟨b, off, none⟩) n c := hd 5 rfl rfl
              have h6 : u 6 = .int .i64 k := hd 6 rfl rfl
              simp only [List.take_succ_cons, List.take_zero, putAll, Act.put, List.setIfInBounds_toArray, List.set_cons_succ, List.set_cons_zero, Nat.zero_add, Nat.reduceAdd, h5, h6] at hK ⊢
              go_simp
              exact hK _ _ (RK.same (by decide)) rfl
            · intro u w1 hC hd K hK
              have h7 : u 7 = .pointer (some ⟨b, off + k, none⟩) := hd 7 rfl rfl
              have hc1 : w1.cell? ⟨b, off + k, none⟩ = some (.int .i64 x) := by rw [hC.cell (p := ⟨b, off + k, none⟩) (World.block_lt_of_cell? wz _ HX0.out)]; exact HX0.out
              simp only [List.take_succ_cons, List.take_zero, putAll, Act.put, List.setIfInBounds_toArray, List.set_cons_succ, List.set_cons_zero, Nat.zero_add, Nat.reduceAdd, h7] at hK ⊢
              go_simp
              exact hK _ _ (RK.same (by decide)) rfl
            · intro u w1 hC hd K hK
              have h8 : u 8 = .int .i64 x := hd 8 rfl rfl
              simp only [List.take_succ_cons, List.take_zero, putAll, Act.put, List.setIfInBounds_toArray, List.set_cons_succ, List.set_cons_zero, Nat.zero_add, Nat.reduceAdd, h8] at hK ⊢
              go_simp
              exact hK _ _ (RK.below (below_alloc (Below.refl _ _) _) (by decide)) (OneAt.new _ _ _)
            · intro u w1 hC hd K hK
              have h4 : RowAt w1 wz.heap.size 3 1 j ((ys.take j).map (Value.int .i64)) (u 4) := hd 4 rfl rfl
              obtain ⟨g, hg0, hg1⟩ := hd 9 rfl rfl
              simp only [List.take_succ_cons, List.take_zero, putAll, Act.put, List.setIfInBounds_toArray, List.set_cons_succ, List.set_cons_zero, Nat.zero_add, Nat.reduceAdd] at hK ⊢
              rw [if_pos (show Region.wanted _ _ = true from rfl)]
              refine wp_append_own (.tmp 49) (.tmp 54) 27 rfl wz.heap.size 3 i0 _ 1 8 Try.underlying27 HI.out HZ0.out HZ1.out HZ2.out rfl (by omega) (u 4) j _ rfl h4 (some ⟨g, 0, none⟩) 1 1 [.int .i64 x] hg0 (fun e => by cases e) (one_cells hg1) (ints_one [x]) (by unfold maxLen; omega) (by omega) hC.size ?_
              intro v' w2 hr hg
              exact hK v' w2 (RK.grown hg (row_base h4)) hr
            · intro u w1 hC hd K hK
              simp only [List.take_succ_cons, List.take_zero, putAll, Act.put, List.setIfInBounds_toArray, List.set_cons_succ, List.set_cons_zero, Nat.zero_add, Nat.reduceAdd] at hK ⊢
              go_simp
              exact hK _ _ (RK.same (by decide)) rfl
            · intro u w1 hC hd K hK
              simp only [List.take_succ_cons, List.take_zero, putAll, Act.put, List.setIfInBounds_toArray, List.set_cons_succ, List.set_cons_zero, Nat.zero_add, Nat.reduceAdd] at hK ⊢
              go_simp
              exact hK _ _ (RK.same (by decide)) rfl
            · intro u w1 hC hd K hK
              have h11 : u 11 = .slice A3 m c3 := hd 11 rfl rfl
              have h12 : u 12 = .int .i64 j := hd 12 rfl rfl
              simp only [List.take_succ_cons, List.take_zero, putAll, Act.put, List.setIfInBounds_toArray, List.set_cons_succ, List.set_cons_zero, Nat.zero_add, Nat.reduceAdd, h11, h12] at hK ⊢
              rw [if_pos (show Region.wanted _ _ = true from rfl)]
              exact wp_slice_from 27 (.tmp 56) (.tmp 57) rfl Try.underlying27 1 (fun _ => by kernel_rfl) A3 m c3 j rfl rfl hjm (hK _ _ (RK.same (by decide)) rfl)
          · intro u wt hC hf
            have h10 : RowAt wt wz.heap.size 3 1 (j + 1) ((ys.take j).map (Value.int .i64) ++ [.int .i64 x]) (u 10) := hf 10 (by omega) rfl
            have h13 : u 13 = .slice (if c3 = j then A3 else A3.map (·.add (j * 1))) (m - j) (c3 - j) := hf 13 (by omega) rfl
            have HC := Lib.hid hC
            simp only [List.take_succ_cons, List.take_zero, List.drop_succ_cons, List.drop_zero, putAll, Act.put, List.setIfInBounds_toArray, List.set_cons_succ, List.set_cons_zero, Nat.zero_add, Nat.reduceAdd, h13]
            clear hC hf h13
            refine wpList_plain rfl (fun K hK => ?_)
            refine wp_append_own (.tmp 55) (.tmp 58) 27 rfl wz.heap.size 3 i0 _ 1 8 Try.underlying27 HI.out HZ0.out HZ1.out HZ2.out rfl (by omega) (u 10) (j + 1) _ rfl h10 _ (m - j) (c3 - j) _ rfl HND.out (HDR.out.below HC.out) (ints_one _) (by unfold maxLen; omega) (by omega) HC.out.size ?_
            intro v' w2 hr hg
            refine hK _ _ ?_
            clear hK K
            have HR2 := Lib.hid (OwnI.of_row (C := w.heap.size) (xs := ys.take j ++ x :: ys.drop j) (by simpa using hr) HZ9.out)
            have HB2 := Lib.hid (HB9.out.trans ((HC.out.grown hg HC.out.size (row_base h10)).mono HZ9.out))
            clear h10 hr hg HC
            go_wp2
            go_roundw
            case rel => exact ⟨k + 1, by omega, by go_num, by rw [HSN.out, HINS.out]; exact HR2.out, HB2.out⟩
            case measure => simp [intOf]; omega
    · have hkn : k = n := by omega
      subst hkn
      rw [List.take_of_length_le (by rw [HL.out]; exact Nat.le_refl _)] at ho
      have HO := Lib.hid ho
      clear ho
      go_wp2
      go_ret
      exact ⟨_, rfl, HO.out, HB.out⟩
end Go.Proofs.Ytkabfjknpjhonaa
