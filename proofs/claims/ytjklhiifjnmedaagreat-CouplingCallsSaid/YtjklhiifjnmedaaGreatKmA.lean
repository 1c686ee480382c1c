/- The reference's Set, and units: numbers in increasing order, each once. The reference's New: the locks of a list that can be held together. The reference's Blocks and Blockers: for whom a lock, or a unit, waits. The reference's has, Blockers and Covered. The wide search in plain Lean: who is reached, level after level; no program in sight. The reference's Reaches: the wide search. -/
import Derived.Test.YtjklhiifjnmedaaGreatLkSame
import Derived.Test.YtjklhiifjnmedaaGreatLkReqB
import Derived.Test.YtjklhiifjnmedaaGreatLkNew
import Derived.Test.YtjklhiifjnmedaaGreatLkAll
import Derived.Test.YtjklhiifjnmedaaGreatKmH
import Derived.Deep.DeepCutAuto
import Derived.Test.YtjklhiifjnmedaaGreatLkWaits
import Derived.Deep.RegionLawGrows
import Derived.Test.YtjklhiifjnmedaaGreatLocks
import Derived.Test.YtjklhiifjnmedaaGreatLkApp
namespace Go.Proofs.YtjklhiifjnmedaaGreat
open Go.RowKit P16 P46
attribute [local go_sem] ByteArray.mk_append_mk ByteArray.extract_mk mk_index
attribute [local irreducible] wpQuiet

theorem ins_at {l : List Int} {x : Int} {j : Nat} (h : ∀ i y, i < j → l[i]? = some y → y < x) (h2 : ∀ y, l[j]? = some y → x ≤ y) : ins l x = if l[j]? = some x then l else l.take j ++ x :: l.drop j := by
  have e : l = l.take j ++ l.drop j := (List.take_append_drop j l).symm
  have hp : ∀ y ∈ l.take j, decide (y < x) = true := by
    intro y hy
    obtain ⟨i, hi⟩ := List.mem_iff_getElem?.1 hy
    rw [List.getElem?_take] at hi
    split at hi
    · rename_i hij
      simpa using h i y hij hi
    · cases hi
  have hh : (l.drop j).head? = l[j]? := by rw [List.head?_drop]
  have hd : (l.drop j).takeWhile (fun y => decide (y < x)) = [] ∧ (l.drop j).dropWhile (fun y => decide (y < x)) = l.drop j := by
    cases hc : l.drop j with
    | nil => simp
    | cons y r =>
      rw [hc] at hh
      have := h2 y hh.symm
      rw [List.takeWhile_cons_of_neg (by simpa using this), List.dropWhile_cons_of_neg (by simpa using this)]
      simp
  have ht : l.takeWhile (fun y => decide (y < x)) = l.take j := by
    conv => lhs; rw [e]
    rw [List.takeWhile_append_of_pos hp, hd.1, List.append_nil]
  have hw : l.dropWhile (fun y => decide (y < x)) = l.drop j := by
    conv => lhs; rw [e]
    rw [List.dropWhile_append_of_pos hp, hd.2]
  unfold ins
  rw [ht, hw, hh]
  split
  · exact e.symm
  · rfl
theorem setL_take {xs : List Int} {k : Nat} {x : Int} (h : xs[k]? = some x) : setL (xs.take (k + 1)) = ins (setL (xs.take k)) x := by
  unfold setL
  rw [take_snoc h, List.foldl_append]
  rfl
theorem ins_len (l : List Int) (x : Int) : (ins l x).length ≤ l.length + 1 := by
  have e := congrArg List.length (List.takeWhile_append_dropWhile (p := fun y => decide (y < x)) (l := l))
  rw [List.length_append] at e
  unfold ins
  split
  · rw [List.length_append]; omega
  · rw [List.length_append, List.length_cons]; omega
theorem setL_len (xs : List Int) : (setL xs).length ≤ xs.length := by
  have key : ∀ (xs a : List Int), (xs.foldl ins a).length ≤ a.length + xs.length := by
    intro xs
    induction xs with
    | nil => intro a; simp
    | cons x xs ih =>
      intro a
      have h1 := ih (ins a x)
      have h2 := ins_len a x
      rw [List.foldl_cons, List.length_cons]
      omega
  simpa [setL] using key xs []
theorem ints_one (xs : List Int) : ∀ u ∈ xs.map (Value.int .i64), u.oneCell' = true := by
  intro u hu
  obtain ⟨x, _, rfl⟩ := List.mem_map.1 hu
  rfl
theorem one_cells {w : World} {g : Nat} {t : TypeId} {cs : Array Value} {s : Nat} (h : Blk w g t cs) (hs : cs.size = s := by rfl) : CellsAt w (some ⟨g, 0, none⟩) 1 s cs.toList := by
  refine ⟨by simp [hs], fun j u hj => ⟨g, 0, rfl, ?_⟩⟩
  rw [Nat.zero_add, h.cell]
  simpa using hj
theorem OwnI.of_row {w : World} {B C n : Nat} {v : Value} {xs : List Int} (h : RowAt w B 3 1 n (xs.map (Value.int .i64)) v) (hC : C ≤ B) : OwnI w C v xs := by
  have hl : xs.length = n := by have := h.1; simpa using this
  subst hl
  exact OwnI.base h hC
theorem OwnI.empty (w : World) (B : Nat) (h : B ≤ w.heap.size) : OwnI (w.alloc (.cells #[] 3)) B (.slice (some ⟨w.heap.size, 0, none⟩) 0 0) [] := World.ownsRow_made w #[] 0 h (Nat.zero_le _) rfl
theorem OwnI.cap {w : World} {B : Nat} {A : Option Addr} {n c : Nat} {xs : List Int} (h : OwnI w B (.slice A n c) xs) : n ≤ c := by
  rcases h.2 with ⟨h1, _⟩ | ⟨g, cap, cur, h1, _, _, h2, _⟩
  · injection h1 with _ h3 h4
    omega
  · injection h1 with _ h3 h4
    omega
theorem OwnI.nilLenR {w : World} {B : Nat} {A : Option Addr} {n c : Nat} {xs : List Int} (h : OwnI w B (.slice A n c) xs) : A = none → n = 0 := by
  intro e
  subst e
  rcases h.2 with ⟨h1, _⟩ | ⟨g, cap, cur, h1, _⟩
  · injection h1
  · injection h1 with h1
    cases h1
set_option maxRecDepth 100000 in
set_option maxHeartbeats 4000000 in
theorem refSet (A : Option Addr) (n c : Nat) (xs : List Int) (w : World) (h : IntsAt w A n xs) (hn : n ≤ 100000) :
    Calls Tryz.prog 94 #[.slice A n c] w fun e w' => ∃ v, e = .returned v ∧ OwnI w' w.heap.size v (setL xs) ∧ Below w.heap.size w w' := by
  have H := Lib.hid h
  have hl := h.len
  clear h
  obtain ⟨i0, hi0, hz0, hz1, hz2⟩ := info_parts infoI
  have HI := Lib.hid hi0
  have HZ0 := Lib.hid hz0
  have HZ1 := Lib.hid hz1
  have HZ2 := Lib.hid hz2
  clear hi0 hz0 hz1 hz2
  have HL := Lib.hid hl
  clear hl
  go_enter Tryz.func94, Tryz.ntmps94
  go_wp2
  go_loopw [3, 4] (fun v i wr => ∃ k : Nat, k ≤ n ∧ i = .int .i64 k ∧ OwnI wr w.heap.size v (setL (xs.take k)) ∧ Below w.heap.size w wr) (fun _ i _ => n - (intOf i).toNat)
  case atStart => exact ⟨0, Nat.zero_le _, rfl, OwnI.empty _ _ (Nat.le_refl _), below_alloc (Below.refl _ _) _⟩
  case round =>
    obtain ⟨k, hk, rfl, ho, hbw⟩ := hrel
    have HB := Lib.hid hbw
    have hsz := hbw.size
    clear hbw
    by_cases hlt : k < n
    · obtain ⟨b, off, x, rfl, hx, x0⟩ := (H.out.below HB.out).at_ hlt
      have HX0' := Lib.hid x0
      have HSN := Lib.hid (setL_take hx)
      obtain ⟨A3, c3, rfl, hs3, -⟩ := ho.cells
      have hlen : (setL (xs.take k)).length ≤ k := Nat.le_trans (setL_len _) (List.length_take_le _ _)
      generalize setL (xs.take k) = ys at ho hs3 hlen HSN ⊢
      obtain ⟨m, hm⟩ : ∃ m, ys.length = m := ⟨_, rfl⟩
      rw [hm] at ho hs3 hlen ⊢
      have HO := Lib.hid ho
      have HS3 := Lib.hid hs3
      have HM := Lib.hid hm
      have hcap := ho.cap
      clear hx x0 ho hs3 hm
      have i0' : (0 : Int) ≤ (k : Int) := by omega
      have i1' : (k : Int) < (n : Int) := by omega
      obtain ⟨wo, hwo⟩ : ∃ wo : World, wo = wr := ⟨_, rfl⟩
      rw [← hwo] at HX0' HO HS3 HB hsz ⊢
      clear hwo wr
      go_wp2
      go_loopw [5] (fun t wr => ∃ j : Nat, j ≤ m ∧ t = .int .i64 j ∧ Hid (∀ i y, i < j → ys[i]? = some y → y < x) ∧ Below wo.heap.size wo wr) (fun t _ => m - (intOf t).toNat)
      case atStart => exact ⟨0, Nat.zero_le _, rfl, fun i y hi => absurd hi (by omega), Below.refl _ _⟩
      case round =>
        obtain ⟨j, hj, rfl, hall, hbo⟩ := hrel
        have HBO := Lib.hid hbo
        have hx0 : wr.cell? ⟨b, off + k, none⟩ = some (.int .i64 x) := by rw [hbo.cell (p := ⟨b, off + k, none⟩) (World.block_lt_of_cell? wo _ HX0'.out)]; exact HX0'.out
        have HX0w := Lib.hid hx0
        clear hbo
        by_cases hjm : j < m
        · obtain ⟨b3, o3, y, rfl, hy, y0⟩ := (HS3.out.below HBO.out).at_ hjm
          have HY := Lib.hid hy
          have HY0w := Lib.hid y0
          clear hy
          have j0 : (0 : Int) ≤ (j : Int) := by omega
          have j1 : (j : Int) < (m : Int) := by omega
          by_cases hyx : y < x
          · have b1 : decide (y < x) = true := decide_eq_true hyx
            go_upto_region 6 with (fail)
            go_quiet (fail)
            have HB5 := Lib.hid (HBO.out.trans ((below_drewN (Below.refl wr.heap.size wr) nq).mono HBO.out.size))
            generalize wr.drewN nq = w6 at HB5 ⊢
            clear y0 hx0 b1
            have HYX := Lib.hid hyx
            clear hyx
            go_wp2
            go_roundw
            case rel =>
              refine ⟨j + 1, by omega, by go_num, ?_, HB5.out⟩
              intro i y' hi hy'
              by_cases hij : i = j
              · subst hij
                have := HY.out.symm.trans hy'
                simp only [Option.some.injEq] at this
                rw [← this]
                exact HYX.out
              · exact hall.out i y' (by omega) hy'
            case measure => simp [intOf]; omega
          · have b1 : decide (y < x) = false := decide_eq_false hyx
            have hle : x ≤ y := by omega
            have HINS0 := Lib.hid (ins_at hall.out (fun y' hy' => by
              have := HY.out.symm.trans hy'
              simp only [Option.some.injEq] at this
              rw [← this]
              exact hle))
            rw [HY.out] at HINS0
            go_upto_region 6 with (fail)
            go_quiet (fail)
            have HB5 := Lib.hid (HBO.out.trans ((below_drewN (Below.refl wr.heap.size wr) nq).mono HBO.out.size))
            have hx6 : (wr.drewN nq).cell? ⟨b, off + k, none⟩ = some (.int .i64 x) := hx0
            have hy6 : (wr.drewN nq).cell? ⟨b3, o3 + j, none⟩ = some (.int .i64 y) := y0
            generalize wr.drewN nq = w6 at HB5 hx6 hy6 ⊢
            clear y0 hx0 b1 hle HX0w HY0w
            by_cases hxy : y = x
            · have b2 : (y == x) = true := beq_of hxy
              have HEQ := Lib.hid (show ins ys x = ys from by have := HINS0.out; rw [if_pos (by rw [hxy])] at this; exact this)
              clear hxy hyx
              go_wp2
              go_quiet (fail)
              have HB7 := Lib.hid (HB5.out.trans ((below_drewN (Below.refl w6.heap.size w6) nq).mono HB5.out.size))
              generalize w6.drewN nq = w7 at HB7 ⊢
              clear hx6 hy6 b2
              have HO7 := Lib.hid (HO.out.below HB7.out)
              have HBB := Lib.hid (HB.out.trans (HB7.out.mono hsz))
              go_wp2
              go_roundw
              case rel => exact ⟨k + 1, by omega, by go_num, by rw [HSN.out, HEQ.out]; exact HO7.out, HBB.out⟩
              case measure => simp [intOf]; omega
            · have b2 : (y == x) = false := beq_not hxy
              have HINS := Lib.hid (show ins ys x = ys.take j ++ x :: ys.drop j from by have := HINS0.out; rw [if_neg (fun e => hxy (by injection e))] at this; exact this)
              clear hxy hyx
              go_wp2
              go_quiet (fail)
              have HB7 := Lib.hid (HB5.out.trans ((below_drewN (Below.refl w6.heap.size w6) nq).mono HB5.out.size))
              have HX0 := Lib.hid (show (w6.drewN nq).cell? ⟨b, off + k, none⟩ = some (.int .i64 x) from hx6)
              generalize w6.drewN nq = wz at HB7 HX0 ⊢
              clear hx6 hy6 b2 HINS0 HY j0 j1
              generalize (some ⟨b3, o3, none⟩ : Option Addr) = A3 at HS3 HO ⊢
              have hjm : j ≤ m := hj
              have hjc : j ≤ c3 := by omega
              have HZ9 := Lib.hid (show w.heap.size ≤ wz.heap.size from Nat.le_trans hsz HB7.out.size)
              have HB9 := Lib.hid (HB.out.trans (HB7.out.mono hsz))
              have HSZ := Lib.hid (HS3.out.below HB7.out)
              have HOZ := Lib.hid (HO.out.below HB7.out)
              have HP := Lib.hid (show CellsAt wz A3 j 1 ((ys.take j).map (Value.int .i64)) from by
                have := CellsAt.pre HSZ.out hjm
                rwa [Nat.mul_one, ← List.map_take] at this)
              have HDR := Lib.hid (show CellsAt wz (if c3 = j then A3 else A3.map (·.add (j * 1))) (m - j) 1 ((ys.drop j).map (Value.int .i64)) from by
                have := CellsAt.cut HSZ.out hjm hcap
                have e : (ys.map (Value.int .i64)).drop (j * 1) = (ys.drop j).map (Value.int .i64) := by rw [Nat.mul_one, List.map_drop]
                rw [e] at this
                exact this)
              have HND := Lib.hid (show (if c3 = j then A3 else A3.map (·.add (j * 1))) = none → m - j = 0 from by
                intro e
                have h0 : A3 = none := by
                  split at e
                  · exact e
                  · simpa using e
                have := HOZ.out.nilLenR h0
                omega)
              go_wp2
              refine wp_region_kill 8 14 (by kernel_rfl) (by kernel_rfl) (fun i => match i with | 0 => some 10 | 4 => some 10 | 9 => some 10 | _ => none) (RK wz.heap.size 10) (fun w1 => Below wz.heap.size wz w1)
                (fun i v w1 => match i with
                  | 0 => EmptyAt w1 wz.heap.size 3 v
                  | 1 => v = .slice A3 m c3
                  | 2 => v = .int .i64 j
                  | 3 => v = .slice A3 j c3
                  | 4 => RowAt w1 wz.heap.size 3 1 j ((ys.take j).map (Value.int .i64)) v
                  | 5 => v = .slice (some ⟨b, off, none⟩) n c
                  | 6 => v = .int .i64 k
                  | 7 => v = .pointer (some ⟨b, off + k, none⟩)
                  | 8 => v = .int .i64 x
                  | 9 => OneAt w1 3 #[.int .i64 x] v
                  | 10 => RowAt w1 wz.heap.size 3 1 (j + 1) ((ys.take j).map (Value.int .i64) ++ [.int .i64 x]) v
                  | 11 => v = .slice A3 m c3
                  | 12 => v = .int .i64 j
                  | 13 => v = .slice (if c3 = j then A3 else A3.map (·.add (j * 1))) (m - j) (c3 - j)
                  | _ => True) (fun _ _ _ h1 h2 => RK.keep h1 h2) ?_ ((Below.refl _ _).drew) ?_ ?_
              · intro kk ii vv w1 w2 hik hk hf hR
                match ii, hik, hk, hf with
                | 0, _, hk, hf => exact EmptyAt.below hf (RK.at_ hR (fun e => hk (by subst e; rfl)))
                | 1, _, _, hf => exact hf
                | 2, _, _, hf => exact hf
                | 3, _, _, hf => exact hf
                | 4, _, hk, hf => exact RowAt.below hf (RK.at_ hR (fun e => hk (by subst e; rfl)))
                | 5, _, _, hf => exact hf
                | 6, _, _, hf => exact hf
                | 7, _, _, hf => exact hf
                | 8, _, _, hf => exact hf
                | 9, _, hk, hf => exact OneAt.below hf (RK.at_ hR (fun e => hk (by subst e; rfl)))
                | 10, hik, _, hf => exact RowAt.below hf (RK.at_ hR (Ne.symm hik))
                | 11, _, _, hf => exact hf
                | 12, _, _, hf => exact hf
                | 13, _, _, hf => exact hf
                | n + 14, _, _, _ => trivial
              · refine allOps_cons ?_ (allOps_cons ?_ (allOps_cons ?_ (allOps_cons ?_ (allOps_cons ?_ (allOps_cons ?_ (allOps_cons ?_ (allOps_cons ?_ (allOps_cons ?_ (allOps_cons ?_ (allOps_cons ?_ (allOps_cons ?_ (allOps_cons ?_ (allOps_cons ?_ allOps_nil)))))))))))))
                · intro u w1 hC hd K hK
                  simp only [List.take_succ_cons, List.take_zero, putAll, Act.put, List.setIfInBounds_toArray, List.set_cons_succ, List.set_cons_zero, Nat.zero_add, Nat.reduceAdd] at hK ⊢
                  go_simp
                  exact hK _ _ (RK.below (below_alloc (Below.refl _ _) _) (by decide)) (EmptyAt.new _ _ hC.size)
                · intro u w1 hC hd K hK
                  simp only [List.take_succ_cons, List.take_zero, putAll, Act.put, List.setIfInBounds_toArray, List.set_cons_succ, List.set_cons_zero, Nat.zero_add, Nat.reduceAdd] at hK ⊢
                  go_simp
                  exact hK _ _ (RK.same (by decide)) rfl
                · intro u w1 hC hd K hK
                  simp only [List.take_succ_cons, List.take_zero, putAll, Act.put, List.setIfInBounds_toArray, List.set_cons_succ, List.set_cons_zero, Nat.zero_add, Nat.reduceAdd] at hK ⊢
                  go_simp
                  exact hK _ _ (RK.same (by decide)) rfl
                · intro u w1 hC hd K hK
                  have h1 : u 1 = .slice A3 m c3 := hd 1 rfl rfl
                  have h2 : u 2 = .int .i64 j := hd 2 rfl rfl
                  simp only [List.take_succ_cons, List.take_zero, putAll, Act.put, List.setIfInBounds_toArray, List.set_cons_succ, List.set_cons_zero, Nat.zero_add, Nat.reduceAdd, h1, h2] at hK ⊢
                  rw [if_pos (show Region.wanted _ _ = true from rfl)]
                  exact wp_slice_to 34 (.tmp 46) (.tmp 47) rfl Tryz.underlying34 1 (fun _ => by kernel_rfl) A3 m c3 j rfl rfl hjc (hK _ _ (RK.same (by decide)) rfl)
                · intro u w1 hC hd K hK
                  have h3 : u 3 = .slice A3 j c3 := hd 3 rfl rfl
                  obtain ⟨g, hg0, hg1, hg2⟩ := hd 0 rfl rfl
                  simp only [List.take_succ_cons, List.take_zero, putAll, Act.put, List.setIfInBounds_toArray, List.set_cons_succ, List.set_cons_zero, Nat.zero_add, Nat.reduceAdd, h3] at hK ⊢
                  rw [if_pos (show Region.wanted _ _ = true from rfl)]
                  refine wp_append_empty w1 (.tmp 45) (.tmp 48) 34 rfl 3 i0 _ 1 8 Tryz.underlying34 HI.out HZ0.out HZ1.out HZ2.out rfl (by omega) g wz.heap.size hg0 hg1 hg2 A3 j c3 _ rfl (HP.out.below hC) (ints_one _) (by unfold maxLen; omega) (by omega) ?_
                  intro v' w2 hown2 hb2
                  exact hK v' w2 (RK.below hb2 (by decide)) hown2
                · intro u w1 hC hd K hK
                  simp only [List.take_succ_cons, List.take_zero, putAll, Act.put, List.setIfInBounds_toArray, List.set_cons_succ, List.set_cons_zero, Nat.zero_add, Nat.reduceAdd] at hK ⊢
                  go_simp
                  exact hK _ _ (RK.same (by decide)) rfl
                · intro u w1 hC hd K hK
                  simp only [List.take_succ_cons, List.take_zero, putAll, Act.put, List.setIfInBounds_toArray, List.set_cons_succ, List.set_cons_zero, Nat.zero_add, Nat.reduceAdd] at hK ⊢
                  go_simp
                  exact hK _ _ (RK.same (by decide)) rfl
                · intro u w1 hC hd K hK
                  have h5 : u 5 = .slice (some ⟨b, off, none⟩) n c := hd 5 rfl rfl
                  have h6 : u 6 = .int .i64 k := hd 6 rfl rfl
                  simp only [List.take_succ_cons, List.take_zero, putAll, Act.put, List.setIfInBounds_toArray, List.set_cons_succ, List.set_cons_zero, Nat.zero_add, Nat.reduceAdd, h5, h6] at hK ⊢
                  go_simp
                  exact hK _ _ (RK.same (by decide)) rfl
                · intro u w1 hC hd K hK
                  have h7 : u 7 = .pointer (some ⟨b, off + k, none⟩) := hd 7 rfl rfl
                  have hc1 : w1.cell? ⟨b, off + k, none⟩ = some (.int .i64 x) := by rw [hC.cell (p := ⟨b, off + k, none⟩) (World.block_lt_of_cell? wz _ HX0.out)]; exact HX0.out
                  simp only [List.take_succ_cons, List.take_zero, putAll, Act.put, List.setIfInBounds_toArray, List.set_cons_succ, List.set_cons_zero, Nat.zero_add, Nat.reduceAdd, h7] at hK ⊢
                  go_simp
                  exact hK _ _ (RK.same (by decide)) rfl
                · intro u w1 hC hd K hK
                  have h8 : u 8 = .int .i64 x := hd 8 rfl rfl
                  simp only [List.take_succ_cons, List.take_zero, putAll, Act.put, List.setIfInBounds_toArray, List.set_cons_succ, List.set_cons_zero, Nat.zero_add, Nat.reduceAdd, h8] at hK ⊢
                  go_simp
                  exact hK _ _ (RK.below (below_alloc (Below.refl _ _) _) (by decide)) (OneAt.new _ _ _)
                · intro u w1 hC hd K hK
                  have h4 : RowAt w1 wz.heap.size 3 1 j ((ys.take j).map (Value.int .i64)) (u 4) := hd 4 rfl rfl
                  obtain ⟨g, hg0, hg1⟩ := hd 9 rfl rfl
                  simp only [List.take_succ_cons, List.take_zero, putAll, Act.put, List.setIfInBounds_toArray, List.set_cons_succ, List.set_cons_zero, Nat.zero_add, Nat.reduceAdd] at hK ⊢
                  rw [if_pos (show Region.wanted _ _ = true from rfl)]
                  refine wp_append_own (.tmp 49) (.tmp 54) 34 rfl wz.heap.size 3 i0 _ 1 8 Tryz.underlying34 HI.out HZ0.out HZ1.out HZ2.out rfl (by omega) (u 4) j _ rfl h4 (some ⟨g, 0, none⟩) 1 1 [.int .i64 x] hg0 (fun e => by cases e) (one_cells hg1) (ints_one [x]) (by unfold maxLen; omega) (by omega) hC.size ?_
                  intro v' w2 hr hg
                  exact hK v' w2 (RK.grown hg (row_base h4)) hr
                · intro u w1 hC hd K hK
                  simp only [List.take_succ_cons, List.take_zero, putAll, Act.put, List.setIfInBounds_toArray, List.set_cons_succ, List.set_cons_zero, Nat.zero_add, Nat.reduceAdd] at hK ⊢
                  go_simp
                  exact hK _ _ (RK.same (by decide)) rfl
                · intro u w1 hC hd K hK
                  simp only [List.take_succ_cons, List.take_zero, putAll, Act.put, List.setIfInBounds_toArray, List.set_cons_succ, List.set_cons_zero, Nat.zero_add, Nat.reduceAdd] at hK ⊢
                  go_simp
                  exact hK _ _ (RK.same (by decide)) rfl
                · intro u w1 hC hd K hK
                  have h11 : u 11 = .slice A3 m c3 := hd 11 rfl rfl
                  have h12 : u 12 = .int .i64 j := hd 12 rfl rfl
                  simp only [List.take_succ_cons, List.take_zero, putAll, Act.put, List.setIfInBounds_toArray, List.set_cons_succ, List.set_cons_zero, Nat.zero_add, Nat.reduceAdd, h11, h12] at hK ⊢
                  rw [if_pos (show Region.wanted _ _ = true from rfl)]
                  exact wp_slice_from 34 (.tmp 56) (.tmp 57) rfl Tryz.underlying34 1 (fun _ => by kernel_rfl) A3 m c3 j rfl rfl hjm (hK _ _ (RK.same (by decide)) rfl)
              · intro u wt hC hf
                have h10 : RowAt wt wz.heap.size 3 1 (j + 1) ((ys.take j).map (Value.int .i64) ++ [.int .i64 x]) (u 10) := hf 10 (by omega) rfl
                have h13 : u 13 = .slice (if c3 = j then A3 else A3.map (·.add (j * 1))) (m - j) (c3 - j) := hf 13 (by omega) rfl
                have HC := Lib.hid hC
                simp only [List.take_succ_cons, List.take_zero, List.drop_succ_cons, List.drop_zero, putAll, Act.put, List.setIfInBounds_toArray, List.set_cons_succ, List.set_cons_zero, Nat.zero_add, Nat.reduceAdd, h13]
                clear hC hf h13
                refine wpList_plain rfl (fun K hK => ?_)
                refine wp_append_own (.tmp 55) (.tmp 58) 34 rfl wz.heap.size 3 i0 _ 1 8 Tryz.underlying34 HI.out HZ0.out HZ1.out HZ2.out rfl (by omega) (u 10) (j + 1) _ rfl h10 _ (m - j) (c3 - j) _ rfl HND.out (HDR.out.below HC.out) (ints_one _) (by unfold maxLen; omega) (by omega) HC.out.size ?_
                intro v' w2 hr hg
                refine hK _ _ ?_
                clear hK K
                have HR2 := Lib.hid (OwnI.of_row (C := w.heap.size) (xs := ys.take j ++ x :: ys.drop j) (by simpa using hr) HZ9.out)
                have HB2 := Lib.hid (HB9.out.trans ((HC.out.grown hg HC.out.size (row_base h10)).mono HZ9.out))
                clear h10 hr hg HC
                go_wp2
                go_roundw
                case rel => exact ⟨k + 1, by omega, by go_num, by rw [HSN.out, HINS.out]; exact HR2.out, HB2.out⟩
                case measure => simp [intOf]; omega
        · have hjm2 : j = m := by omega
          have j1 : ¬ (j : Int) < (m : Int) := by omega
          have HINS := Lib.hid (show ins ys x = ys.take j ++ x :: ys.drop j from by
            have hnone : ys[j]? = none := List.getElem?_eq_none (by rw [HM.out]; omega)
            have := ins_at hall.out (fun y' hy' => by rw [hnone] at hy'; cases hy')
            rw [hnone] at this
            simpa using this)
          have HJM := Lib.hid hjm2
          clear hjm2
          go_upto_region 6 with (fail)
          go_quiet (fail)
          have HB5 := Lib.hid (HBO.out.trans ((below_drewN (Below.refl wr.heap.size wr) nq).mono HBO.out.size))
          have hx6 : (wr.drewN nq).cell? ⟨b, off + k, none⟩ = some (.int .i64 x) := hx0
          generalize wr.drewN nq = w6 at HB5 hx6 ⊢
          clear hx0 HX0w
          go_wp2
          go_quiet (fail)
          have HB7 := Lib.hid (HB5.out.trans ((below_drewN (Below.refl w6.heap.size w6) nq).mono HB5.out.size))
          have HX0 := Lib.hid (show (w6.drewN nq).cell? ⟨b, off + k, none⟩ = some (.int .i64 x) from hx6)
          generalize w6.drewN nq = wz at HB7 HX0 ⊢
          clear hx6 hjm j1
          have hjm : j ≤ m := hj
          have hjc : j ≤ c3 := by omega
          have HZ9 := Lib.hid (show w.heap.size ≤ wz.heap.size from Nat.le_trans hsz HB7.out.size)
          have HB9 := Lib.hid (HB.out.trans (HB7.out.mono hsz))
          have HSZ := Lib.hid (HS3.out.below HB7.out)
          have HOZ := Lib.hid (HO.out.below HB7.out)
          have HP := Lib.hid (show CellsAt wz A3 j 1 ((ys.take j).map (Value.int .i64)) from by
            have := CellsAt.pre HSZ.out hjm
            rwa [Nat.mul_one, ← List.map_take] at this)
          have HDR := Lib.hid (show CellsAt wz (if c3 = j then A3 else A3.map (·.add (j * 1))) (m - j) 1 ((ys.drop j).map (Value.int .i64)) from by
            have := CellsAt.cut HSZ.out hjm hcap
            have e : (ys.map (Value.int .i64)).drop (j * 1) = (ys.drop j).map (Value.int .i64) := by rw [Nat.mul_one, List.map_drop]
            rw [e] at this
            exact this)
          have HND := Lib.hid (show (if c3 = j then A3 else A3.map (·.add (j * 1))) = none → m - j = 0 from by
            intro e
            have h0 : A3 = none := by
              split at e
              · exact e
              · simpa using e
            have := HOZ.out.nilLenR h0
            omega)
          go_wp2
          refine wp_region_kill 8 14 (by kernel_rfl) (by kernel_rfl) (fun i => match i with | 0 => some 10 | 4 => some 10 | 9 => some 10 | _ => none) (RK wz.heap.size 10) (fun w1 => Below wz.heap.size wz w1)
            (fun i v w1 => match i with
              | 0 => EmptyAt w1 wz.heap.size 3 v
              | 1 => v = .slice A3 m c3
              | 2 => v = .int .i64 j
              | 3 => v = .slice A3 j c3
              | 4 => RowAt w1 wz.heap.size 3 1 j ((ys.take j).map (Value.int .i64)) v
              | 5 => v = .slice (some ⟨b, off, none⟩) n c
              | 6 => v = .int .i64 k
              | 7 => v = .pointer (some ⟨b, off + k, none⟩)
              | 8 => v = .int .i64 x
              | 9 => OneAt w1 3 #[.int .i64 x] v
              | 10 => RowAt w1 wz.heap.size 3 1 (j + 1) ((ys.take j).map (Value.int .i64) ++ [.int .i64 x]) v
              | 11 => v = .slice A3 m c3
              | 12 => v = .int .i64 j
              | 13 => v = .slice (if c3 = j then A3 else A3.map (·.add (j * 1))) (m - j) (c3 - j)
              | _ => True) (fun _ _ _ h1 h2 => RK.keep h1 h2) ?_ ((Below.refl _ _).drew) ?_ ?_
          · intro kk ii vv w1 w2 hik hk hf hR
            match ii, hik, hk, hf with
            | 0, _, hk, hf => exact EmptyAt.below hf (RK.at_ hR (fun e => hk (by subst e; rfl)))
            | 1, _, _, hf => exact hf
            | 2, _, _, hf => exact hf
            | 3, _, _, hf => exact hf
            | 4, _, hk, hf => exact RowAt.below hf (RK.at_ hR (fun e => hk (by subst e; rfl)))
            | 5, _, _, hf => exact hf
            | 6, _, _, hf => exact hf
            | 7, _, _, hf => exact hf
            | 8, _, _, hf => exact hf
            | 9, _, hk, hf => exact OneAt.below hf (RK.at_ hR (fun e => hk (by subst e; rfl)))
            | 10, hik, _, hf => exact RowAt.below hf (RK.at_ hR (Ne.symm hik))
            | 11, _, _, hf => exact hf
            | 12, _, _, hf => exact hf
            | 13, _, _, hf => exact hf
            | n + 14, _, _, _ => trivial
          · refine allOps_cons ?_ (allOps_cons ?_ (allOps_cons ?_ (allOps_cons ?_ (allOps_cons ?_ (allOps_cons ?_ (allOps_cons ?_ (allOps_cons ?_ (allOps_cons ?_ (allOps_cons ?_ (allOps_cons ?_ (allOps_cons ?_ (allOps_cons ?_ (allOps_cons ?_ allOps_nil)))))))))))))
            · intro u w1 hC hd K hK
              simp only [List.take_succ_cons, List.take_zero, putAll, Act.put, List.setIfInBounds_toArray, List.set_cons_succ, List.set_cons_zero, Nat.zero_add, Nat.reduceAdd] at hK ⊢
              go_simp
              exact hK _ _ (RK.below (below_alloc (Below.refl _ _) _) (by decide)) (EmptyAt.new _ _ hC.size)
            · intro u w1 hC hd K hK
              simp only [List.take_succ_cons, List.take_zero, putAll, Act.put, List.setIfInBounds_toArray, List.set_cons_succ, List.set_cons_zero, Nat.zero_add, Nat.reduceAdd] at hK ⊢
              go_simp
              exact hK _ _ (RK.same (by decide)) rfl
            · intro u w1 hC hd K hK
              simp only [List.take_succ_cons, List.take_zero, putAll, Act.put, List.setIfInBounds_toArray, List.set_cons_succ, List.set_cons_zero, Nat.zero_add, Nat.reduceAdd] at hK ⊢
              go_simp
              exact hK _ _ (RK.same (by decide)) rfl
            · intro u w1 hC hd K hK
              have h1 : u 1 = .slice A3 m c3 := hd 1 rfl rfl
              have h2 : u 2 = .int .i64 j := hd 2 rfl rfl
              simp only [List.take_succ_cons, List.take_zero, putAll, Act.put, List.setIfInBounds_toArray, List.set_cons_succ, List.set_cons_zero, Nat.zero_add, Nat.reduceAdd, h1, h2] at hK ⊢
              rw [if_pos (show Region.wanted _ _ = true from rfl)]
              exact wp_slice_to 34 (.tmp 46) (.tmp 47) rfl Tryz.underlying34 1 (fun _ => by kernel_rfl) A3 m c3 j rfl rfl hjc (hK _ _ (RK.same (by decide)) rfl)
            · intro u w1 hC hd K hK
              have h3 : u 3 = .slice A3 j c3 := hd 3 rfl rfl
              obtain ⟨g, hg0, hg1, hg2⟩ := hd 0 rfl rfl
              simp only [List.take_succ_cons, List.take_zero, putAll, Act.put, List.setIfInBounds_toArray, List.set_cons_succ, List.set_cons_zero, Nat.zero_add, Nat.reduceAdd, h3] at hK ⊢
              rw [if_pos (show Region.wanted _ _ = true from rfl)]
              refine wp_append_empty w1 (.tmp 45) (.tmp 48) 34 rfl 3 i0 _ 1 8 Tryz.underlying34 HI.out HZ0.out HZ1.out HZ2.out rfl (by omega) g wz.heap.size hg0 hg1 hg2 A3 j c3 _ rfl (HP.out.below hC) (ints_one _) (by unfold maxLen; omega) (by omega) ?_
              intro v' w2 hown2 hb2
              exact hK v' w2 (RK.below hb2 (by decide)) hown2
            · intro u w1 hC hd K hK
              simp only [List.take_succ_cons, List.take_zero, putAll, Act.put, List.setIfInBounds_toArray, List.set_cons_succ, List.set_cons_zero, Nat.zero_add, Nat.reduceAdd] at hK ⊢
              go_simp
              exact hK _ _ (RK.same (by decide)) rfl
            · intro u w1 hC hd K hK
              simp only [List.take_succ_cons, List.take_zero, putAll, Act.put, List.setIfInBounds_toArray, List.set_cons_succ, List.set_cons_zero, Nat.zero_add, Nat.reduceAdd] at hK ⊢
              go_simp
              exact hK _ _ (RK.same (by decide)) rfl
            · intro u w1 hC hd K hK
              have h5 : u 5 = .slice (some ⟨b, off, none⟩) n c := hd 5 rfl rfl
              have h6 : u 6 = .int .i64 k := hd 6 rfl rfl
              simp only [List.take_succ_cons, List.take_zero, putAll, Act.put, List.setIfInBounds_toArray, List.set_cons_succ, List.set_cons_zero, Nat.zero_add, Nat.reduceAdd, h5, h6] at hK ⊢
              go_simp
              exact hK _ _ (RK.same (by decide)) rfl
            · intro u w1 hC hd K hK
              have h7 : u 7 = .pointer (some ⟨b, off + k, none⟩) := hd 7 rfl rfl
              have hc1 : w1.cell? ⟨b, off + k, none⟩ = some (.int .i64 x) := by rw [hC.cell (p := ⟨b, off + k, none⟩) (World.block_lt_of_cell? wz _ HX0.out)]; exact HX0.out
              simp only [List.take_succ_cons, List.take_zero, putAll, Act.put, List.setIfInBounds_toArray, List.set_cons_succ, List.set_cons_zero, Nat.zero_add, Nat.reduceAdd, h7] at hK ⊢
              go_simp
              exact hK _ _ (RK.same (by decide)) rfl
            · intro u w1 hC hd K hK
              have h8 : u 8 = .int .i64 x := hd 8 rfl rfl
              simp only [List.take_succ_cons, List.take_zero, putAll, Act.put, List.setIfInBounds_toArray, List.set_cons_succ, List.set_cons_zero, Nat.zero_add, Nat.reduceAdd, h8] at hK ⊢
              go_simp
              exact hK _ _ (RK.below (below_alloc (Below.refl _ _) _) (by decide)) (OneAt.new _ _ _)
            · intro u w1 hC hd K hK
              have h4 : RowAt w1 wz.heap.size 3 1 j ((ys.take j).map (Value.int .i64)) (u 4) := hd 4 rfl rfl
              obtain ⟨g, hg0, hg1⟩ := hd 9 rfl rfl
              simp only [List.take_succ_cons, List.take_zero, putAll, Act.put, List.setIfInBounds_toArray, List.set_cons_succ, List.set_cons_zero, Nat.zero_add, Nat.reduceAdd] at hK ⊢
              rw [if_pos (show Region.wanted _ _ = true from rfl)]
              refine wp_append_own (.tmp 49) (.tmp 54) 34 rfl wz.heap.size 3 i0 _ 1 8 Tryz.underlying34 HI.out HZ0.out HZ1.out HZ2.out rfl (by omega) (u 4) j _ rfl h4 (some ⟨g, 0, none⟩) 1 1 [.int .i64 x] hg0 (fun e => by cases e) (one_cells hg1) (ints_one [x]) (by unfold maxLen; omega) (by omega) hC.size ?_
              intro v' w2 hr hg
              exact hK v' w2 (RK.grown hg (row_base h4)) hr
            · intro u w1 hC hd K hK
              simp only [List.take_succ_cons, List.take_zero, putAll, Act.put, List.setIfInBounds_toArray, List.set_cons_succ, List.set_cons_zero, Nat.zero_add, Nat.reduceAdd] at hK ⊢
              go_simp
              exact hK _ _ (RK.same (by decide)) rfl
            · intro u w1 hC hd K hK
              simp only [List.take_succ_cons, List.take_zero, putAll, Act.put, List.setIfInBounds_toArray, List.set_cons_succ, List.set_cons_zero, Nat.zero_add, Nat.reduceAdd] at hK ⊢
              go_simp
              exact hK _ _ (RK.same (by decide)) rfl
            · intro u w1 hC hd K hK
              have h11 : u 11 = .slice A3 m c3 := hd 11 rfl rfl
              have h12 : u 12 = .int .i64 j := hd 12 rfl rfl
              simp only [List.take_succ_cons, List.take_zero, putAll, Act.put, List.setIfInBounds_toArray, List.set_cons_succ, List.set_cons_zero, Nat.zero_add, Nat.reduceAdd, h11, h12] at hK ⊢
              rw [if_pos (show Region.wanted _ _ = true from rfl)]
              exact wp_slice_from 34 (.tmp 56) (.tmp 57) rfl Tryz.underlying34 1 (fun _ => by kernel_rfl) A3 m c3 j rfl rfl hjm (hK _ _ (RK.same (by decide)) rfl)
          · intro u wt hC hf
            have h10 : RowAt wt wz.heap.size 3 1 (j + 1) ((ys.take j).map (Value.int .i64) ++ [.int .i64 x]) (u 10) := hf 10 (by omega) rfl
            have h13 : u 13 = .slice (if c3 = j then A3 else A3.map (·.add (j * 1))) (m - j) (c3 - j) := hf 13 (by omega) rfl
            have HC := Lib.hid hC
            simp only [List.take_succ_cons, List.take_zero, List.drop_succ_cons, List.drop_zero, putAll, Act.put, List.setIfInBounds_toArray, List.set_cons_succ, List.set_cons_zero, Nat.zero_add, Nat.reduceAdd, h13]
            clear hC hf h13
            refine wpList_plain rfl (fun K hK => ?_)
            refine wp_append_own (.tmp 55) (.tmp 58) 34 rfl wz.heap.size 3 i0 _ 1 8 Tryz.underlying34 HI.out HZ0.out HZ1.out HZ2.out rfl (by omega) (u 10) (j + 1) _ rfl h10 _ (m - j) (c3 - j) _ rfl HND.out (HDR.out.below HC.out) (ints_one _) (by unfold maxLen; omega) (by omega) HC.out.size ?_
            intro v' w2 hr hg
            refine hK _ _ ?_
            clear hK K
            have HR2 := Lib.hid (OwnI.of_row (C := w.heap.size) (xs := ys.take j ++ x :: ys.drop j) (by simpa using hr) HZ9.out)
            have HB2 := Lib.hid (HB9.out.trans ((HC.out.grown hg HC.out.size (row_base h10)).mono HZ9.out))
            clear h10 hr hg HC
            go_wp2
            go_roundw
            case rel => exact ⟨k + 1, by omega, by go_num, by rw [HSN.out, HINS.out]; exact HR2.out, HB2.out⟩
            case measure => simp [intOf]; omega
    · have hkn : k = n := by omega
      subst hkn
      rw [List.take_of_length_le (by rw [HL.out]; exact Nat.le_refl _)] at ho
      have HO := Lib.hid ho
      clear ho
      go_wp2
      go_ret
      exact ⟨_, rfl, HO.out, HB.out⟩
end Go.Proofs.YtjklhiifjnmedaaGreat
namespace Go.Proofs.YtjklhiifjnmedaaGreat
open Go.RowKit P16 P46 Go.Sort
attribute [local go_sem] ByteArray.mk_append_mk ByteArray.extract_mk mk_index
attribute [local irreducible] wpQuiet

abbrev tS : TypeId := 53
/-- A state in the making at block p: its held locks are 'h'; it has no queue. -/
structure RSt (w : World) (B p : Nat) (h : List Lock) (vh : Value) : Prop where
  box : Blk w p tS #[vh, .slice none 0 0]
  base : B ≤ p
  held : OwnL w B tL vh h
section
variable {w w' : World} {B p : Nat} {h : List Lock} {vh : Value}
theorem own_neR {e : TypeId} {v : Value} {ls : List Lock} {g : Nat} {t : TypeId} {cs : Array Value} (ho : OwnL w B e v ls) (hb : Blk w g t cs) (hne : t ≠ e) : v.ownBlock ≠ some g := by
  intro e1
  rcases ho.2 with ⟨rfl, _⟩ | ⟨g', cap, cur, rfl, _, hg, _⟩
  · simp [Value.ownBlock] at e1
  · simp [Value.ownBlock] at e1
    subst e1
    exact Blk.ne hb hg hne rfl
theorem RSt.below (m : RSt w B p h vh) (hb : Below w.heap.size w w') : RSt w' B p h vh := ⟨m.box.below hb, m.base, m.held.below hb⟩
theorem RSt.box_ne (m : RSt w B p h vh) : vh.ownBlock ≠ some p := by
  intro e
  rcases m.held.2 with ⟨rfl, _⟩ | ⟨g, cap, cur, rfl, _, hg, _⟩
  · simp [Value.ownBlock] at e
  · simp [Value.ownBlock] at e
    subst e
    exact Blk.ne m.box hg (by decide) rfl
/-- 'x.Held = append(x.Held, l)'. -/
theorem RSt.push {w8 w9 : World} (m : RSt w8 B p h vh) (hB : B ≤ w8.heap.size) {l : Lock} {o : Obj} {gg cap : Nat} (hg : ((w8.alloc o).drew).grownBy w9 vh.ownBlock)
    (hown : w9.ownsRow B tL 6 (.slice (some ⟨gg, 0, none⟩) (h.length + 1) cap) (h.length + 1) (lcs h ++ lc l)) (hat : vh.ownBlock = some gg ∨ gg = w8.heap.size + 1) :
    RSt (w9.setCell ⟨p, 0, none⟩ (.slice (some ⟨gg, 0, none⟩) (h.length + 1) cap)) B p (h ++ [l]) (.slice (some ⟨gg, 0, none⟩) (h.length + 1) cap) ∧ Below B w8 (w9.setCell ⟨p, 0, none⟩ (.slice (some ⟨gg, 0, none⟩) (h.length + 1) cap)) := by
  have hb : Below w8.heap.size w8 (w8.alloc o).drew := ((Below.refl _ w8).alloc (Nat.le_refl _) o).drew
  have ho : OwnL w9 B tL (.slice (some ⟨gg, 0, none⟩) (h.length + 1) cap) (h ++ [l]) := by
    unfold OwnL
    rw [List.length_append, lcs_append]
    simpa [lcs] using hown
  have hne := m.box_ne
  have hp := m.box.lt
  have hbx : Blk w9 p tS #[vh, .slice none 0 0] := (m.box.below hb).grown hg (fun e => hne e.symm)
  have hgp : (Value.slice (some ⟨gg, 0, none⟩) (h.length + 1) cap).ownBlock ≠ some p := by
    rcases hat with e | e
    · rw [← show vh.ownBlock = (Value.slice (some ⟨gg, 0, none⟩) (h.length + 1) cap).ownBlock from e]
      exact hne
    · simp [Value.ownBlock]
      omega
  refine ⟨⟨by simpa using hbx.put 0 _, m.base, ho.setCell hgp _⟩, ?_⟩
  have hgb : Below B w8 w9 := (hb.mono hB).trans ⟨hg.os, hg.tape, hg.output, hg.size, fun k hk => hg.block k (by have := hb.size; omega) (fun e => by have := (m.held.lt k e.symm).1; omega)⟩
  exact hgb.trans ⟨rfl, rfl, rfl, by simp, fun k hk => Below.heap_setCell _ _ _ _ (fun e => by have := m.base; simp only at e; omega)⟩
/-- .. and another block. -/
theorem RSt.keeps {w8 w9 : World} (m : RSt w8 B p h vh) {g : Nat} {cs : Array Value} (hG : Blk w8 g tS cs) (hgp : g < p) {o : Obj} (hg : ((w8.alloc o).drew).grownBy w9 vh.ownBlock) (u : Value) :
    Blk (w9.setCell ⟨p, 0, none⟩ u) g tS cs := by
  have hb : Below w8.heap.size w8 (w8.alloc o).drew := ((Below.refl _ w8).alloc (Nat.le_refl _) o).drew
  have hne : some g ≠ vh.ownBlock := by
    intro e
    rcases m.held.2 with ⟨rfl, _⟩ | ⟨g', cap', cur, rfl, _, hg', _⟩
    · simp [Value.ownBlock] at e
    · simp [Value.ownBlock] at e
      subst e
      exact Blk.ne hG hg' (by decide) rfl
  exact ((hG.below hb).grown hg hne).far (by simp only; omega) u
end
theorem rcells {w : World} {b o : Nat} {l : Lock} (h : ∀ (j : Nat) (u : Value), (#[.int .i64 l.unit, .int .i64 l.id, .string ⟨l.r.low.toArray⟩, .string ⟨l.r.high.toArray⟩, .bool l.r.e, .bool l.x] : Array Value)[j]? = some u → w.cell? ((⟨b, o, none⟩ : Addr).add j) = some u) :
    w.cell? ⟨b, o, none⟩ = some (.int .i64 l.unit) ∧ w.cell? ⟨b, o + 1, none⟩ = some (.int .i64 l.id) ∧ w.cell? ⟨b, o + 2, none⟩ = some (.string ⟨l.r.low.toArray⟩) ∧ w.cell? ⟨b, o + 3, none⟩ = some (.string ⟨l.r.high.toArray⟩) ∧ w.cell? ⟨b, o + 4, none⟩ = some (.bool l.r.e) ∧ w.cell? ⟨b, o + 5, none⟩ = some (.bool l.x) := by
  have k0 := h 0 _ rfl
  have k1 := h 1 _ rfl
  have k2 := h 2 _ rfl
  have k3 := h 3 _ rfl
  have k4 := h 4 _ rfl
  have k5 := h 5 _ rfl
  rw [Addr.add_lit] at k0 k1 k2 k3 k4 k5
  exact ⟨k0, k1, k2, k3, k4, k5⟩
set_option maxRecDepth 100000 in
set_option maxHeartbeats 2000000 in
theorem refNew (A : Option Addr) (n c : Nat) (ls : List Lock) (w : World) (ha : LocksAt w A n ls) (hn : n ≤ 100000) :
    Calls Tryz.prog 65 #[.slice A n c] w fun e w' => ∃ vh, e = .returned (.agg #[vh, .slice none 0 0]) ∧ OwnL w' w.heap.size tL vh (newL ls) ∧ Below w.heap.size w w' := by
  have HA := Lib.hid ha
  clear ha
  have hlenL : (Tryz.prog.info? 30).map (·.size) = some 6 := by kernel_rfl
  go_enter Tryz.func65, Tryz.ntmps65
  go_upto_region 2 with (fail)
  obtain ⟨w1, g, p, e1, e2, e3, hb1, h1, h2⟩ := boxes2 w tS #[.slice none 0 0, .slice none 0 0] #[.slice none 0 0, .slice none 0 0]
  rw [e1, e3, e2]
  have hg0 : w.heap.size ≤ g := by omega
  have hp0 : w.heap.size ≤ p := by omega
  have hgp : g < p := by omega
  have HM1 := Lib.hid (show RSt w1 w.heap.size p (newL (ls.take 0)) (.slice none 0 0) from ⟨h2, by omega, OwnL.nil _ _ _⟩)
  have HG1 := Lib.hid h1
  have HB1 := Lib.hid hb1
  clear e1 e2 e3 hb1 h1 h2
  go_wp2
  go_loopw [4] (fun i wr => ∃ (k : Nat) (vh : Value), k ≤ n ∧ i = .int .i64 k ∧ RSt wr w.heap.size p (newL (ls.take k)) vh ∧ Blk wr g tS #[.slice none 0 0, .slice none 0 0] ∧ Below w.heap.size w wr) (fun i _ => n - (intOf i).toNat)
  case atStart => exact ⟨0, _, Nat.zero_le _, rfl, HM1.out, HG1.out, HB1.out⟩
  case round =>
    obtain ⟨k, vh, hk, rfl, hm, hg, hbw⟩ := hrel
    have HM := Lib.hid hm
    have HB := Lib.hid hbw
    have HG := Lib.hid hg
    have hsz := hbw.size
    clear hm hbw hg
    by_cases hlt : k < n
    · have hs := HA.out.below HB.out
      obtain ⟨b, off, l, rfl, hl, -⟩ := hs.at_ hlt
      have hr := hs.row hl
      have HR := Lib.hid hr
      have HF := Lib.hid (newL_take hl)
      have hnl : (newL (ls.take k)).length ≤ k := Nat.le_trans (newL_len _) (List.length_take_le _ _)
      clear hs hl
      obtain ⟨A1, c1, hvh, hs1, -⟩ := HM.out.held.cells
      subst hvh
      obtain ⟨n1, hn1⟩ : ∃ n1, (newL (ls.take k)).length = n1 := ⟨_, rfl⟩
      have MR := Lib.hid (regrown_row hr)
      have hc4 := HM.out.box.cell 0
      have HS4 := Lib.hid hs1
      simp only [hn1] at hc4 HS4
      simp at hc4
      have HN1 := Lib.hid hn1
      have hn1' : n1 ≤ 1000000 := by omega
      have hcR : ∀ d os, (grow (redrawn wr d) os).cell? ⟨p, 0, none⟩ = some (.slice A1 n1 c1) := fun d os => cell_regrown hc4 d os
      have i0 : (0 : Int) ≤ (k : Int) := by omega
      have i1 : (k : Int) < (n : Int) := by omega
      cases hval : validL l with
      | false =>
        have cV : ∀ W, Calls Tryz.prog 63 #[lv l] W fun e w' => e = .returned (.bool false) ∧ Below W.heap.size W w' := fun W => by
          have := refValid l W
          rw [hval] at this
          exact this
        have CV := Lib.hid cV
        have HOK := Lib.hid (show newOk (newL (ls.take k)) l = false from by unfold newOk; rw [hval]; rfl)
        clear hr hs1 hn1 hc4 cV hval
        go_upto_region 5 with (fail)
        refine wp_region_quiet_below (by kernel_rfl) (by kernel_rfl) ?_
        repeat (first | (refine wpQuiet_load_cells rfl 30 (.tmp 14) rfl ⟨b, off + k * 6, none⟩ rfl _ _ MR.out Tryz.underlying30 rfl hlenL ?_) | quiet_step ((go_at_call 63; refine Calls.regrown_of (CV.out _))))
        refine wpQuiet_nil ?_
        intro w7 hw7
        obtain ⟨pp, rfl⟩ := hw7
        have hbr := below_regrown wr pp.d pp.os
        have HM7 := Lib.hid (HM.out.below hbr)
        have HG7 := Lib.hid (HG.out.below hbr)
        have HB7 := Lib.hid (HB.out.trans (hbr.mono hsz))
        clear hbr
        generalize grow (redrawn wr pp.d) pp.os = w7 at HM7 HB7 HG7 ⊢
        clear hcR MR
        go_wp2
        go_roundw
        case rel => exact ⟨k + 1, _, by omega, by go_num, by rw [HF.out, if_neg (by rw [HOK.out]; simp)]; exact HM7.out, HG7.out, HB7.out⟩
        case measure => simp [intOf]; omega
      | true =>
        have cV : ∀ W, Calls Tryz.prog 63 #[lv l] W fun e w' => e = .returned (.bool true) ∧ Below W.heap.size W w' := fun W => by
          have := refValid l W
          rw [hval] at this
          exact this
        have CV := Lib.hid cV
        have HVL := Lib.hid hval
        clear hr hs1 hn1 hc4 cV hval
        go_upto_region 5 with (fail)
        refine wp_region_quiet_below (by kernel_rfl) (by kernel_rfl) ?_
        repeat (first | (refine wpQuiet_load_cells rfl 30 (.tmp 14) rfl ⟨b, off + k * 6, none⟩ rfl _ _ MR.out Tryz.underlying30 rfl hlenL ?_) | (refine wpQuiet_load_cells rfl 30 (.tmp 22) rfl ⟨b, off + k * 6, none⟩ rfl _ _ MR.out Tryz.underlying30 rfl hlenL ?_) | quiet_step ((first | (go_at_call 63; refine Calls.regrown_of (CV.out _)) | (go_at_call 97; refine Calls.regrown_of (refConflicts l _ _ _ _ _ (HS4.out.below (below_regrown _ _ _)) hn1')))))
        refine wpQuiet_nil ?_
        intro w7 hw7
        obtain ⟨pp, rfl⟩ := hw7
        have hbr := below_regrown wr pp.d pp.os
        have HM7 := Lib.hid (HM.out.below hbr)
        have HG7 := Lib.hid (HG.out.below hbr)
        have HB7 := Lib.hid (HB.out.trans (hbr.mono hsz))
        have HR7 := Lib.hid (MR.out _ ⟨pp, rfl⟩)
        have hz7 := hbr.size
        clear hbr
        generalize grow (redrawn wr pp.d) pp.os = w8 at HM7 HB7 HG7 HR7 hz7 ⊢
        clear hcR MR
        cases hany : (newL (ls.take k)).any fun y => conflict y l with
        | true =>
          have HOK := Lib.hid (show newOk (newL (ls.take k)) l = false from by unfold newOk; rw [hany]; simp)
          clear hany
          go_wp2
          go_roundw
          case rel => exact ⟨k + 1, _, by omega, by go_num, by rw [HF.out, if_neg (by rw [HOK.out]; simp)]; exact HM7.out, HG7.out, HB7.out⟩
          case measure => simp [intOf]; omega
        | false =>
          have HOK := Lib.hid (show newOk (newL (ls.take k)) l = true from by unfold newOk; rw [hany, HVL.out]; rfl)
          clear hany
          generalize newL (ls.take k) = hs at *
          have hc8 := HM7.out.box.cell 0
          have hf8 := HM7.out.box.frozen 0
          simp only [HN1.out] at hc8
          simp at hc8
          obtain ⟨a0, a1, a2, a3, a4, a5⟩ := rcells HR7.out
          have hp8 := HM7.out.box.lt
          have hB8 : w.heap.size ≤ w8.heap.size := HB7.out.size
          obtain ⟨i0', hi0', hz0, hz1, hz2⟩ := info_parts infoL
          have HI0 := Lib.hid hi0'
          have HZ0 := Lib.hid hz0
          have HZ1 := Lib.hid hz1
          have HZ2 := Lib.hid hz2
          have HN1' := Lib.hid (show hs.length = n1 from HN1.out)
          have HM8 := Lib.hid (show RSt w8 w.heap.size p hs (.slice A1 n1 c1) from by
            have := HM7.out
            rw [HN1.out] at this
            exact this)
          have hne1 : some p ≠ (Value.slice A1 n1 c1).ownBlock := fun e => HM8.out.box_ne e.symm
          clear hi0' hz0 hz1 hz2
          go_upto_region 6 with (fail)
          go_region_law ((refine step_append_lies _ (by rfl) _ _ _ (by rfl) w.heap.size 30 i0' _ 6 64 Tryz.underlying41 HI0.out HZ0.out HZ1.out HZ2.out rfl (by omega) (.slice A1 n1 c1) hs.length (lcs hs) (by rfl) ((HM8.out.held.alloc _).drew) ⟨w8.heap.size, 0, none⟩ 1 1 (lc l) (by rfl) (by rfl) (World.news_of_block (cs := la l) (t := 30) (fr := (0, 0)) (heap_alloc_new w8 _)) (lc_one l) (by omega) (by unfold maxLen; rw [HN1'.out]; omega) (by rw [HN1'.out]; omega) (by simp; omega) (w8.heap.size + 1) (by simp) ?_; intro gg cap w9 hown9 hgrow hat hlt9; have hb9 := ((((HM8.out.box.alloc _).drew).grown hgrow hne1)); have hc9 := hb9.cell 0; have hf9 := hb9.frozen 0; simp at hc9; have HP9 := Lib.hid (HM8.out.push hB8 hgrow hown9 hat); have HG9 := Lib.hid (HM8.out.keeps HG7.out hgp hgrow (.slice (some ⟨gg, 0, none⟩) (hs.length + 1) cap)); have HB9 := Lib.hid (HB7.out.trans HP9.out.2); clear hb9 hown9 hat hgrow hlt9))
          all_goals
            go_wp2
            go_roundw
            case rel => exact ⟨k + 1, _, by omega, by go_num, by rw [HF.out, if_pos HOK.out]; exact HP9.out.1, HG9.out, HB9.out⟩
            case measure => simp [intOf]; omega
    · have hkn : k = n := by omega
      subst hkn
      have hm := HM.out
      rw [List.take_of_length_le (by rw [HA.out.len]; exact Nat.le_refl _)] at hm
      have HL := Lib.hid hm
      have c0 := hm.box.cell 0
      have c1 := hm.box.cell 1
      have hg2 := HG.out.lt
      have hp2 := hm.box.lt
      have f0 := HG.out.frozen 0
      have f1 := HG.out.frozen 1
      have d0 := HG.out.cell 0
      have d1 := HG.out.cell 1
      simp at c0 c1 d0 d1
      obtain ⟨A1, e1, rfl, -, -⟩ := hm.held.cells
      clear hm
      go_wp2
      have hv1 : (Value.slice A1 (newL ls).length e1).ownBlock ≠ some g := own_neR HL.out.held HG.out (by decide)
      refine bodyPost_ret (v := .agg #[.slice A1 (newL ls).length e1, .slice none 0 0]) (by simp [results, Tryz.results65, go_sem, d0, d1]) rfl ⟨_, rfl, (HL.out.held.setCell hv1 _).setCell hv1 _, ?_⟩
      exact ((HB.out.setCell hg0 _).setCell hg0 _)
end Go.Proofs.YtjklhiifjnmedaaGreat
namespace Go.Proofs.YtjklhiifjnmedaaGreat
open Go.RowKit P16 P46 Go.Sort
attribute [local go_sem] ByteArray.mk_append_mk ByteArray.extract_mk mk_index
attribute [local irreducible] wpQuiet

/-- The units of the held locks that conflict; of the waiting ones. -/
def blkH (hs : List Lock) (l : Lock) : List Int := (hs.filter fun y => conflict y l).map (·.unit)
def blkQ (o qs : List Lock) (l : Lock) : List Int := (qs.filter (waitsOn o l)).map (·.unit)
theorem blks_parts (h q : List Lock) (l : Lock) : blks h q l = blkH h l ++ blkQ (own h l.unit) q l := rfl
theorem blkH_take {hs : List Lock} {k : Nat} {y : Lock} (l : Lock) (h : hs[k]? = some y) : blkH (hs.take (k + 1)) l = if conflict y l = true then blkH (hs.take k) l ++ [y.unit] else blkH (hs.take k) l := by
  unfold blkH
  rw [take_snoc h, List.filter_append]
  by_cases e : conflict y l = true <;> simp [e]
theorem blkQ_take {o qs : List Lock} {k : Nat} {y : Lock} (l : Lock) (h : qs[k]? = some y) : blkQ o (qs.take (k + 1)) l = if waitsOn o l y = true then blkQ o (qs.take k) l ++ [y.unit] else blkQ o (qs.take k) l := by
  unfold blkQ
  rw [take_snoc h, List.filter_append]
  by_cases e : waitsOn o l y = true <;> simp [e]
theorem blkH_len (hs : List Lock) (l : Lock) : (blkH hs l).length ≤ hs.length := by
  unfold blkH
  rw [List.length_map]
  exact List.length_filter_le _ _
theorem blkQ_len (o qs : List Lock) (l : Lock) : (blkQ o qs l).length ≤ qs.length := by
  unfold blkQ
  rw [List.length_map]
  exact List.length_filter_le _ _
theorem own_apartI {w : World} {B1 B2 : Nat} {vL vI : Value} {ls : List Lock} {xs : List Int} (h1 : OwnL w B1 tL vL ls) (h2 : OwnI w B2 vI xs) : vL.ownBlock = none ∨ vL.ownBlock ≠ vI.ownBlock := by
  rcases h1.2 with ⟨rfl, _⟩ | ⟨g, cap, cur, rfl, _, hg, _⟩
  · exact .inl rfl
  · refine .inr fun e => ?_
    rcases h2.2 with ⟨rfl, _⟩ | ⟨g', cap', cur', rfl, _, hg', _⟩
    · simp [Value.ownBlock] at e
    · simp [Value.ownBlock] at e
      subst e
      exact Blk.ne hg hg' (by decide) rfl
theorem ownI_ne {w : World} {B : Nat} {v : Value} {xs : List Int} {g : Nat} {t : TypeId} {cs : Array Value} (ho : OwnI w B v xs) (hb : Blk w g t cs) (hne : t ≠ 3) : some g ≠ v.ownBlock := by
  intro e1
  rcases ho.2 with ⟨rfl, _⟩ | ⟨g', cap, cur, rfl, _, hg, _⟩
  · simp [Value.ownBlock] at e1
  · simp [Value.ownBlock] at e1
    subst e1
    exact Blk.ne hb hg hne rfl
theorem OwnL.reads3 {w : World} {B : Nat} {e : TypeId} {A : Option Addr} {n c : Nat} {ls : List Lock} (h : OwnL w B e (.slice A n c) ls) : LocksAt w A n ls ∧ ls.length = n := by
  obtain ⟨A9, c9, h9, hq9, -⟩ := h.cells
  injection h9 with h91 h92 h93
  subst h91
  exact ⟨by rw [h92]; exact hq9, h92.symm⟩
/-- Blocks at work: the state's box, the lock's box, the unit's own locks, the numbers found. -/
structure RB (w wr : World) (p g : Nat) (cs : Array Value) (l : Lock) (v3 : Value) (o : List Lock) (out : Value) (xs : List Int) : Prop where
  st : Blk wr p tS cs
  lk : Blk wr g tL (la l)
  own : OwnL wr w.heap.size tL v3 o
  out : OwnI wr w.heap.size out xs
  low : Below w.heap.size w wr
section
variable {w wr w' : World} {p g : Nat} {cs : Array Value} {l : Lock} {v3 out out' : Value} {o : List Lock} {xs xs' : List Int}
theorem RB.below (k : RB w wr p g cs l v3 o out xs) (hb : Below wr.heap.size wr w') : RB w w' p g cs l v3 o out xs :=
  ⟨k.st.below hb, k.lk.below hb, k.own.below hb, k.out.below hb, k.low.trans (hb.mono k.low.size)⟩
theorem RB.push {ob : Obj} (k : RB w wr p g cs l v3 o out xs) (hg : (wr.alloc ob).grownBy w' out.ownBlock) (ho : OwnI w' w.heap.size out' xs') (hpl : some g ≠ out.ownBlock) : RB w w' p g cs l v3 o out' xs' :=
  ⟨(k.st.alloc ob).grown hg (ownI_ne k.out k.st (by decide)), (k.lk.alloc ob).grown hg hpl, (k.own.alloc ob).kept hg (own_apartI k.own k.out), ho, by
    have hz := k.low.size
    exact (k.low.alloc hz _).grown hg (by rw [World.size_alloc]; omega) (fun j hj => (k.out.lt j hj).1)⟩
end
set_option maxRecDepth 100000 in
set_option maxHeartbeats 4000000 in
theorem refBlocks (l : Lock) (A1 A2 : Option Addr) (n1 c1 n2 c2 m : Nat) (h q : List Lock) (w : World) (hh : LocksAt w A1 n1 h) (hq : LocksAt w A2 n2 q) (hn1 : n1 ≤ 100000) (hn2 : n2 ≤ 100000) (hm : m ≤ n2) :
    Calls Tryz.prog 93 #[.agg #[.slice A1 n1 c1, .slice A2 n2 c2], lv l, .int .i64 m] w fun e w' => ∃ v, e = .returned v ∧ OwnI w' w.heap.size v (blks h (q.take m) l) ∧ Below w.heap.size w w' := by
  have HH := Lib.hid hh
  have HQ := Lib.hid hq
  clear hh hq
  have hlenL : (Tryz.prog.info? 30).map (·.size) = some 6 := by kernel_rfl
  obtain ⟨i1, hi1, hy0, hy1, hy2⟩ := info_parts infoI
  have HI1 := Lib.hid hi1
  have HY0 := Lib.hid hy0
  have HY1 := Lib.hid hy1
  have HY2 := Lib.hid hy2
  clear hi1 hy0 hy1 hy2
  unfold lv
  go_enter Tryz.func93, Tryz.ntmps93
  go_upto_region 1 with (fail)
  obtain ⟨w1, p, g, e1, e2, e3, hb1, h1, h2⟩ : ∃ (w2 : World) (p q : Nat), (w.alloc (.cells #[.slice A1 n1 c1, .slice A2 n2 c2] tS)).alloc (.cells (la l) tL) = w2 ∧ w.heap.size = p ∧ w.heap.size + 1 = q ∧ Below w.heap.size w w2 ∧ Blk w2 p tS #[.slice A1 n1 c1, .slice A2 n2 c2] ∧ Blk w2 q tL (la l) := by
    refine ⟨_, _, _, rfl, rfl, rfl, below_alloc (below_alloc (Below.refl _ _) _) _, (Blk.new w tS _).alloc _, ?_⟩
    have := Blk.new (w.alloc (.cells #[.slice A1 n1 c1, .slice A2 n2 c2] tS)) tL (la l)
    rwa [World.size_alloc] at this
  unfold la at e1
  rw [e1, e3, e2]
  have HH1 := Lib.hid (HH.out.below hb1)
  have HB1 := Lib.hid hb1
  have HS1 := Lib.hid h1
  have HL1 := Lib.hid h2
  have hcp := (h1.alloc (.cells #[] 3)).cell 0
  have hcl := (h2.alloc (.cells #[] 3)).cell 0
  simp at hcp
  unfold la at hcl
  simp at hcl
  have hz1 := hb1.size
  clear e1 e2 e3 hb1 h1 h2
  go_wp2_with (go_at_call 100; refine (refOf l.unit A1 n1 c1 h _ (HH1.out.below (below_alloc (Below.refl _ _) _)) (by omega)).mono ?_; rintro e w3 ⟨v3, rfl, ho3, hb3⟩; have HO3 := Lib.hid ho3; have HB3 := Lib.hid hb3; clear ho3 hb3)
  have hz2 : (w1.alloc (.cells #[] 3)).heap.size = w1.heap.size + 1 := World.size_alloc _ _
  have hbz := below_alloc (Below.refl _ w1) (.cells #[] 3)
  obtain ⟨A3, c3, rfl, hs3, -⟩ := HO3.out.cells
  have HK3 := Lib.hid (show RB w w3 p g #[.slice A1 n1 c1, .slice A2 n2 c2] l (.slice A3 (own h l.unit).length c3) (own h l.unit) (.slice (some ⟨w1.heap.size, 0, none⟩) 0 0) (blkH (h.take 0) l) from
    ⟨(HS1.out.below hbz).below HB3.out, (HL1.out.below hbz).below HB3.out, HO3.out.base (by omega), (OwnI.empty w1 w.heap.size hz1).below HB3.out, (HB1.out.trans (hbz.mono hz1)).trans (HB3.out.mono (by omega))⟩)
  have hl3 : (own h l.unit).length ≤ n1 := by rw [← HH.out.len]; exact List.length_filter_le _ _
  clear hcp hcl hs3 hbz hz2
  generalize (own h l.unit).length = n3 at *
  go_wp2
  go_loopw [7, 9] (fun out i wr => ∃ k : Nat, k ≤ n1 ∧ i = .int .i64 k ∧ RB w wr p g #[.slice A1 n1 c1, .slice A2 n2 c2] l (.slice A3 n3 c3) (own h l.unit) out (blkH (h.take k) l)) (fun _ i _ => n1 - (intOf i).toNat)
  case atStart => exact ⟨0, Nat.zero_le _, rfl, HK3.out⟩
  case round =>
    obtain ⟨k, hk, rfl, hkb⟩ := hrel
    have HK := Lib.hid hkb
    have HHa := Lib.hid (HH.out.below hkb.low)
    clear hkb
    by_cases hlt : k < n1
    · obtain ⟨b, off, y, rfl, hy, -⟩ := HHa.out.at_ hlt
      have hr := HHa.out.row hy
      have HR := Lib.hid hr
      have HF := Lib.hid (blkH_take l hy)
      have hlen := blkH_len (h.take k) l
      have hlt2 := List.length_take_le k h
      generalize blkH (h.take k) l = us at HK HF hlen
      have MR := Lib.hid (regrown_row hr)
      have hlk := HK.out.lk.add
      unfold la at hlk
      have MX := Lib.hid (regrown_row hlk)
      clear hlk
      have hc0 := HK.out.st.cell 0
      simp at hc0
      have HC0 := Lib.hid hc0
      have hcR : ∀ d os, (grow (redrawn wr d) os).cell? ⟨p, 0, none⟩ = some (.slice (some ⟨b, off, none⟩) n1 c1) := fun d os => cell_regrown HC0.out d os
      have i0 : (0 : Int) ≤ (k : Int) := by omega
      have i1' : (k : Int) < (n1 : Int) := by omega
      clear hr hy
      go_upto_region 6 with (fail)
      refine wp_region_quiet_below (by kernel_rfl) (by kernel_rfl) ?_
      repeat (first | (refine wpQuiet_load_cells rfl 30 (.tmp 27) rfl ⟨b, off + k * 6, none⟩ rfl _ _ MR.out Tryz.underlying30 rfl hlenL ?_) | (refine wpQuiet_load_cells rfl 30 (.tmp 4) rfl ⟨g, 0, none⟩ rfl _ _ MX.out Tryz.underlying30 rfl hlenL ?_) | quiet_step ((go_at_call 64; refine Calls.regrown_of (refConflict y l _))))
      refine wpQuiet_nil ?_
      intro w7 hw7
      obtain ⟨pp, rfl⟩ := hw7
      have hbr := below_regrown wr pp.d pp.os
      have HK7 := Lib.hid (HK.out.below hbr)
      have HR7 := Lib.hid (MR.out _ ⟨pp, rfl⟩)
      clear hbr
      generalize grow (redrawn wr pp.d) pp.os = w7 at HK7 HR7 ⊢
      clear hcR MR MX HC0 hc0
      cases hcf : conflict y l with
      | false =>
        have HCF := Lib.hid hcf
        clear hcf
        go_wp2
        go_roundw
        case rel => exact ⟨k + 1, by omega, by go_num, by rw [HF.out, if_neg (by rw [HCF.out]; simp)]; exact HK7.out⟩
        case measure => simp [intOf]; omega
      | true =>
        have HCF := Lib.hid hcf
        clear hcf
        have hc7 := HK7.out.st.cell 0
        simp at hc7
        obtain ⟨a0, -, -, -, -, -⟩ := rcells HR7.out
        have hz7 := HK7.out.low.size
        obtain ⟨A7, c7, rfl, -, -⟩ := HK7.out.out.cells
        go_wp2_with (at_builtin; refine wpList_append_int rfl (.tmp 31) (.tmp 38) _ rfl w.heap.size i1 _ Tryz.underlying34 HI1.out HY0.out HY1.out HY2.out rfl _ us rfl (HK7.out.out.alloc _) y.unit w7.heap.size 1 rfl (World.cell?_alloc_mark w7 _ 3 (0, 0) 0) (by omega) (by simp; omega) ?_; intro v11 w11 hown11 hg11 hat11; have HK11 := Lib.hid (HK7.out.push hg11 hown11 (ownI_ne HK7.out.out HK7.out.lk (by decide))); clear hown11 hg11 hat11)
        go_roundw
        case rel => exact ⟨k + 1, by omega, by go_num, by rw [HF.out, if_pos HCF.out]; exact HK11.out⟩
        case measure => simp [intOf]; omega
    · have hkn : k = n1 := by omega
      subst hkn
      have hkb := HK.out
      rw [List.take_of_length_le (by rw [HH.out.len]; exact Nat.le_refl _)] at hkb
      have HKA := Lib.hid hkb
      have hlen := blkH_len h l
      rw [HH.out.len] at hlen
      have hc0 := HKA.out.st.cell 0
      simp at hc0
      clear hkb HK
      go_wp2
      obtain ⟨wo, hwo⟩ : ∃ wo : World, wo = wr := ⟨_, rfl⟩
      rw [← hwo] at HKA ⊢
      clear hwo HHa hc0 wr
      go_loopw [7, 10] (fun out i wr => ∃ j : Nat, j ≤ m ∧ i = .int .i64 j ∧ RB w wr p g #[.slice A1 k c1, .slice A2 n2 c2] l (.slice A3 n3 c3) (own h l.unit) out (blkH h l ++ blkQ (own h l.unit) (q.take j) l)) (fun _ i _ => m - (intOf i).toNat)
      case atStart => exact ⟨0, Nat.zero_le _, rfl, by simpa [blkQ] using HKA.out⟩
      case round =>
        obtain ⟨j, hj, rfl, hkb⟩ := hrel
        have HK := Lib.hid hkb
        have HQa := Lib.hid (HQ.out.below hkb.low)
        clear hkb HKA
        by_cases hlt2 : j < m
        · obtain ⟨b, off, y, rfl, hy, -⟩ := HQa.out.at_ (show j < n2 by omega)
          have hr := HQa.out.row hy
          have HF := Lib.hid (blkQ_take (o := own h l.unit) l hy)
          have hlen2 := blkQ_len (own h l.unit) (q.take j) l
          have hlt3 := List.length_take_le j q
          have hus : (blkH h l ++ blkQ (own h l.unit) (q.take j) l).length ≤ 1000000 := by rw [List.length_append]; omega
          have HF2 := Lib.hid (show blkH h l ++ blkQ (own h l.unit) (q.take (j + 1)) l = if waitsOn (own h l.unit) l y = true then (blkH h l ++ blkQ (own h l.unit) (q.take j) l) ++ [y.unit] else blkH h l ++ blkQ (own h l.unit) (q.take j) l from by
            rw [HF.out]
            split
            · rw [List.append_assoc]
            · rfl)
          generalize blkH h l ++ blkQ (own h l.unit) (q.take j) l = us at HK HF2 hus
          have MR := Lib.hid (regrown_row hr)
          have hlk := HK.out.lk.add
          unfold la at hlk
          have MX := Lib.hid (regrown_row hlk)
          clear hlk
          have hc0 := HK.out.st.cell 1
          simp at hc0
          have HC0 := Lib.hid hc0
          have hcR : ∀ d os, (grow (redrawn wr d) os).cell? ⟨p, 1, none⟩ = some (.slice (some ⟨b, off, none⟩) n2 c2) := fun d os => cell_regrown HC0.out d os
          obtain ⟨hs3, h3l⟩ := HK.out.own.reads3
          have HS3 := Lib.hid hs3
          have i0 : (0 : Int) ≤ (j : Int) := by omega
          have i1' : (j : Int) < (n2 : Int) := by omega
          have i2' : (j : Int) < (m : Int) := by omega
          clear hr hy HF hs3 h3l
          cases hcf : conflict y l with
          | false =>
            have cV : ∀ W, Calls Tryz.prog 64 #[lv y, lv l] W fun e w' => e = .returned (.bool false) ∧ Below W.heap.size W w' := fun W => by
              have := refConflict y l W
              rw [hcf] at this
              exact this
            have CV := Lib.hid cV
            have HOK := Lib.hid (show waitsOn (own h l.unit) l y = false from by unfold waitsOn; rw [hcf]; rfl)
            clear cV hcf
            go_upto_region 11 with (fail)
            refine wp_region_quiet_below (by kernel_rfl) (by kernel_rfl) ?_
            repeat (first | (refine wpQuiet_load_cells rfl 30 (.tmp 55) rfl ⟨b, off + j * 6, none⟩ rfl _ _ MR.out Tryz.underlying30 rfl hlenL ?_) | (refine wpQuiet_load_cells rfl 30 (.tmp 4) rfl ⟨g, 0, none⟩ rfl _ _ MX.out Tryz.underlying30 rfl hlenL ?_) | quiet_step ((go_at_call 64; refine Calls.regrown_of (CV.out _))))
            refine wpQuiet_nil ?_
            intro w7 hw7
            obtain ⟨pp, rfl⟩ := hw7
            have HK7 := Lib.hid (HK.out.below (below_regrown wr pp.d pp.os))
            generalize grow (redrawn wr pp.d) pp.os = w7 at HK7 ⊢
            clear hcR MR MX HC0 hc0
            go_wp2
            go_roundw
            case rel => exact ⟨j + 1, by omega, by go_num, by rw [HF2.out, if_neg (by rw [HOK.out]; simp)]; exact HK7.out⟩
            case measure => simp [intOf]; omega
          | true =>
            have cV : ∀ W, Calls Tryz.prog 64 #[lv y, lv l] W fun e w' => e = .returned (.bool true) ∧ Below W.heap.size W w' := fun W => by
              have := refConflict y l W
              rw [hcf] at this
              exact this
            have CV := Lib.hid cV
            have HCF := Lib.hid hcf
            clear cV hcf
            go_upto_region 11 with (fail)
            refine wp_region_quiet_below (by kernel_rfl) (by kernel_rfl) ?_
            repeat (first | (refine wpQuiet_load_cells rfl 30 (.tmp 55) rfl ⟨b, off + j * 6, none⟩ rfl _ _ MR.out Tryz.underlying30 rfl hlenL ?_) | (refine wpQuiet_load_cells rfl 30 (.tmp 64) rfl ⟨b, off + j * 6, none⟩ rfl _ _ MR.out Tryz.underlying30 rfl hlenL ?_) | (refine wpQuiet_load_cells rfl 30 (.tmp 4) rfl ⟨g, 0, none⟩ rfl _ _ MX.out Tryz.underlying30 rfl hlenL ?_) | quiet_step ((first | (go_at_call 64; refine Calls.regrown_of (CV.out _)) | (go_at_call 97; refine Calls.regrown_of (refConflicts y _ _ _ _ _ (HS3.out.below (below_regrown _ _ _)) (by omega))))))
            refine wpQuiet_nil ?_
            intro w7 hw7
            obtain ⟨pp, rfl⟩ := hw7
            have hbr := below_regrown wr pp.d pp.os
            have HK7 := Lib.hid (HK.out.below hbr)
            have HR7 := Lib.hid (MR.out _ ⟨pp, rfl⟩)
            clear hbr
            generalize grow (redrawn wr pp.d) pp.os = w7 at HK7 HR7 ⊢
            clear hcR MR MX HC0 hc0
            cases hany : (own h l.unit).any fun z => conflict z y with
            | true =>
              have HOK := Lib.hid (show waitsOn (own h l.unit) l y = false from by unfold waitsOn; rw [hany]; simp)
              clear hany
              go_wp2
              go_roundw
              case rel => exact ⟨j + 1, by omega, by go_num, by rw [HF2.out, if_neg (by rw [HOK.out]; simp)]; exact HK7.out⟩
              case measure => simp [intOf]; omega
            | false =>
              have HOK := Lib.hid (show waitsOn (own h l.unit) l y = true from by unfold waitsOn; rw [hany, HCF.out]; rfl)
              clear hany
              have hc7 := HK7.out.st.cell 1
              simp at hc7
              obtain ⟨a0, -, -, -, -, -⟩ := rcells HR7.out
              have hz7 := HK7.out.low.size
              obtain ⟨A7, c7, rfl, -, -⟩ := HK7.out.out.cells
              go_wp2_with (at_builtin; refine wpList_append_int rfl (.tmp 69) (.tmp 76) _ rfl w.heap.size i1 _ Tryz.underlying34 HI1.out HY0.out HY1.out HY2.out rfl _ us rfl (HK7.out.out.alloc _) y.unit w7.heap.size 1 rfl (World.cell?_alloc_mark w7 _ 3 (0, 0) 0) (by omega) (by simp; omega) ?_; intro v11 w11 hown11 hg11 hat11; have HK11 := Lib.hid (HK7.out.push hg11 hown11 (ownI_ne HK7.out.out HK7.out.lk (by decide))); clear hown11 hg11 hat11)
              go_roundw
              case rel => exact ⟨j + 1, by omega, by go_num, by rw [HF2.out, if_pos HOK.out]; exact HK11.out⟩
              case measure => simp [intOf]; omega
        · have hjm : j = m := by omega
          subst hjm
          have hkb := HK.out
          have HKZ := Lib.hid hkb
          clear hkb HK
          have i1' : ¬ (j : Int) < (j : Int) := by omega
          go_wp2
          go_ret
          exact ⟨_, rfl, by rw [blks_parts]; exact HKZ.out.out, HKZ.out.low⟩
end Go.Proofs.YtjklhiifjnmedaaGreat
namespace Go.Proofs.YtjklhiifjnmedaaGreat
open Go.RowKit P16 P46 Go.Sort
attribute [local go_sem] ByteArray.mk_append_mk ByteArray.extract_mk mk_index
attribute [local irreducible] wpQuiet

set_option maxRecDepth 100000 in
set_option maxHeartbeats 2000000 in
theorem refHas (A : Option Addr) (n c : Nat) (xs : List Int) (u : Int) (w : World) (h : IntsAt w A n xs) (hn : n ≤ 1000000) :
    Calls Tryz.prog 124 #[.slice A n c, .int .i64 u] w fun e w' => e = .returned (.bool (decide (u ∈ xs))) ∧ Below w.heap.size w w' := by
  have H := Lib.hid h
  clear h
  go_enter Tryz.func124, Tryz.ntmps124
  go_wp2
  go_loopw [5] (fun i wr => ∃ k : Nat, k ≤ n ∧ i = .int .i64 k ∧ Hid (∀ (j : Nat), j < k → ∀ y, xs[j]? = some y → y ≠ u) ∧ Below w.heap.size w wr) (fun i _ => n - (intOf i).toNat)
  case atStart => exact ⟨0, Nat.zero_le _, rfl, fun j hj => absurd hj (by omega), Below.refl _ _⟩
  case round =>
    obtain ⟨k, hk, rfl, hall, hbw⟩ := hrel
    have HB := Lib.hid hbw
    clear hbw
    by_cases hlt : k < n
    · obtain ⟨b, off, x, rfl, hx, x0⟩ := (H.out.below HB.out).at_ hlt
      have HX := Lib.hid hx
      clear hx
      have i0 : (0 : Int) ≤ (k : Int) := by omega
      have i1 : (k : Int) < (n : Int) := by omega
      by_cases hxu : x = u
      · have hb : (x == u) = true := by simp [hxu]
        have HO := Lib.hid (show decide (u ∈ xs) = true from decide_eq_true (hxu ▸ List.mem_of_getElem? HX.out))
        clear hxu
        go_wp2
        go_ret
        exact ⟨retBool HO.out.symm, HB.out⟩
      · have hb : (x == u) = false := by simp [hxu]
        have HU := Lib.hid hxu
        clear hxu
        go_wp2
        go_roundw
        case rel =>
          refine ⟨k + 1, by omega, by go_num, ?_, HB.out⟩
          intro j hj y hy
          by_cases hjk : j = k
          · subst hjk
            rw [HX.out] at hy
            obtain rfl := Option.some.inj hy
            exact HU.out
          · exact hall.out j (by omega) y hy
        case measure => simp [intOf]; omega
    · have hkn : k = n := by omega
      subst hkn
      have HO := Lib.hid (show decide (u ∈ xs) = false from by
        rw [decide_eq_false_iff_not]
        intro hu
        obtain ⟨j, hj⟩ := List.mem_iff_getElem?.1 hu
        exact hall.out j (by have := H.out.len; have := (List.getElem?_eq_some_iff.1 hj).1; omega) u hj rfl)
      go_wp2
      go_ret
      exact ⟨retBool HO.out.symm, HB.out⟩
theorem idx_eq {q : List Lock} {u : Int} {k : Nat} {l : Lock} (hl : q[k]? = some l) (hu : l.unit = u) (h : ∀ (j : Nat), j < k → ∀ y : Lock, q[j]? = some y → y.unit ≠ u) : idx q u = some k := by
  unfold idx
  rw [List.findIdx?_eq_some_iff_getElem]
  obtain ⟨hk, rfl⟩ := List.getElem?_eq_some_iff.1 hl
  exact ⟨hk, by simpa using hu, fun j hj => by simpa using h j hj _ (List.getElem?_eq_getElem (by omega))⟩
set_option maxRecDepth 100000 in
set_option maxHeartbeats 4000000 in
theorem refBlockers (u : Int) (A1 A2 : Option Addr) (n1 c1 n2 c2 : Nat) (h q : List Lock) (w : World) (hh : LocksAt w A1 n1 h) (hq : LocksAt w A2 n2 q) (hn1 : n1 ≤ 100000) (hn2 : n2 ≤ 100000) :
    Calls Tryz.prog 123 #[.agg #[.slice A1 n1 c1, .slice A2 n2 c2], .int .i64 u] w fun e w' => ∃ v, e = .returned v ∧ OwnI w' w.heap.size v (blockers ⟨h, q⟩ u) ∧ Below w.heap.size w w' := by
  have HH := Lib.hid hh
  have HQ := Lib.hid hq
  clear hh hq
  have hlenL : (Tryz.prog.info? 30).map (·.size) = some 6 := by kernel_rfl
  have hlenS : (Tryz.prog.info? tS).map (·.size) = some 2 := by kernel_rfl
  go_enter Tryz.func123, Tryz.ntmps123
  go_upto_region 1 with (fail)
  obtain ⟨w1, p, e1, e2, hb1, h1⟩ := boxes1 w tS #[.slice A1 n1 c1, .slice A2 n2 c2]
  rw [e1, e2]
  have HS1 := Lib.hid h1
  have HB1 := Lib.hid hb1
  clear e1 e2 hb1 h1
  go_wp2
  go_loopw [5] (fun i wr => ∃ k : Nat, k ≤ n2 ∧ i = .int .i64 k ∧ Hid (∀ (j : Nat), j < k → ∀ y : Lock, q[j]? = some y → y.unit ≠ u) ∧ w1 = wr) (fun i _ => n2 - (intOf i).toNat)
  case atStart => exact ⟨0, Nat.zero_le _, rfl, fun j hj => absurd hj (by omega), rfl⟩
  case round =>
    obtain ⟨k, hk, rfl, hall, rfl⟩ := hrel
    have hc0 := HS1.out.cell 1
    simp at hc0
    have HC0 := Lib.hid hc0
    have HQa := Lib.hid (HQ.out.below HB1.out)
    have HHa := Lib.hid (HH.out.below HB1.out)
    by_cases hlt : k < n2
    · obtain ⟨b, off, y, rfl, hy, x0, -⟩ := HQa.out.at_ hlt
      have HY := Lib.hid hy
      have hr := HQa.out.row hy
      have HR := Lib.hid hr
      clear hr hy
      have i0 : (0 : Int) ≤ (k : Int) := by omega
      have i1 : (k : Int) < (n2 : Int) := by omega
      by_cases hxu : y.unit = u
      · have hb : (y.unit == u) = true := by simp [hxu]
        have HIX := Lib.hid (idx_eq HY.out hxu hall.out)
        clear hxu
        have HB := Lib.hid (blockers_some (s := ⟨h, q⟩) HIX.out HY.out)
        go_upto_region 5 with (fail)
        go_still_tail 7, (by kernel_rfl)
        refine wpStill_load_cells rfl tS (.tmp 2) rfl ⟨p, 0, none⟩ rfl #[.slice A1 n1 c1, .slice (some ⟨b, off, none⟩) n2 c2] _ (by exact HS1.out.add) Tryz.underlying53 rfl hlenS ?_
        repeat still_step
        refine wpStill_load_cells rfl 30 (.tmp 25) rfl ⟨b, off + k * 6, none⟩ rfl (la y) _ (by exact HR.out) Tryz.underlying30 rfl hlenL ?_
        repeat still_step
        try refine wpStill_nil ?_
        have hbd := below_drewN (Below.refl w1.heap.size w1) 1
        go_wp2_with (go_at_call 93; refine (refBlocks y A1 _ n1 c1 n2 c2 k h q _ (HHa.out.below hbd) (HQa.out.below hbd) hn1 hn2 (by omega)).mono ?_; rintro e w5 ⟨v5, rfl, ho5, hb5⟩; have HO5 := Lib.hid ho5; have HB5 := Lib.hid ((HB1.out.trans (hbd.mono HB1.out.size)).trans (hb5.mono HB1.out.size)); clear ho5 hb5)
        go_ret
        exact ⟨_, rfl, by rw [HB.out]; exact HO5.out.base HB1.out.size, HB5.out⟩
      · have hb : (y.unit == u) = false := by simp [hxu]
        have HU := Lib.hid hxu
        clear hxu
        go_wp2
        go_roundw
        case rel =>
          refine ⟨k + 1, by omega, by go_num, ?_, trivial⟩
          intro j hj z hz
          by_cases hjk : j = k
          · subst hjk
            rw [HY.out] at hz
            obtain rfl := Option.some.inj hz
            exact HU.out
          · exact hall.out j (by omega) z hz
        case measure => simp [intOf]; omega
    · have hkn : k = n2 := by omega
      subst hkn
      have HO := Lib.hid (show blockers ⟨h, q⟩ u = [] from blockers_none (idx_none.2 (fun l hl => by
        obtain ⟨j, hj⟩ := List.mem_iff_getElem?.1 hl
        have hl2 := HQ.out.len
        have hj2 := (List.getElem?_eq_some_iff.1 (show q[j]? = some l from hj)).1
        exact hall.out j (by omega) l hj)))
      go_wp2
      go_ret
      exact ⟨_, rfl, by rw [HO.out]; exact OwnI.nil _ _, HB1.out⟩
/-- One lock covers another one. -/
def cov1 (y x : Lock) : Bool := decide (y.unit = x.unit) && decide (y.id = x.id) && (y.x || !x.x) && covers y.r x.r
theorem covered_any (h : List Lock) (x : Lock) : covered h x = h.any fun y => cov1 y x := rfl
set_option maxRecDepth 100000 in
set_option maxHeartbeats 4000000 in
theorem refCovered (l : Lock) (A1 A2 : Option Addr) (n1 c1 n2 c2 : Nat) (h : List Lock) (w : World) (hh : LocksAt w A1 n1 h) (hn1 : n1 ≤ 100000) :
    Calls Tryz.prog 99 #[.agg #[.slice A1 n1 c1, .slice A2 n2 c2], lv l] w fun e w' => e = .returned (.bool (covered h l)) ∧ Below w.heap.size w w' := by
  have HH := Lib.hid hh
  clear hh
  have hlenL : (Tryz.prog.info? 30).map (·.size) = some 6 := by kernel_rfl
  unfold lv
  go_enter Tryz.func99, Tryz.ntmps99
  go_upto_region 1 with (fail)
  obtain ⟨w1, p, g, e1, e2, e3, hb1, h1, h2⟩ : ∃ (w2 : World) (p q : Nat), (w.alloc (.cells #[.slice A1 n1 c1, .slice A2 n2 c2] tS)).alloc (.cells (la l) tL) = w2 ∧ w.heap.size = p ∧ w.heap.size + 1 = q ∧ Below w.heap.size w w2 ∧ Blk w2 p tS #[.slice A1 n1 c1, .slice A2 n2 c2] ∧ Blk w2 q tL (la l) := by
    refine ⟨_, _, _, rfl, rfl, rfl, below_alloc (below_alloc (Below.refl _ _) _) _, (Blk.new w tS _).alloc _, ?_⟩
    have := Blk.new (w.alloc (.cells #[.slice A1 n1 c1, .slice A2 n2 c2] tS)) tL (la l)
    rwa [World.size_alloc] at this
  unfold la at e1
  rw [e1, e3, e2]
  have HH1 := Lib.hid (HH.out.below hb1)
  have HB1 := Lib.hid hb1
  have HS1 := Lib.hid h1
  have HL1 := Lib.hid h2
  clear e1 e2 e3 hb1 h1 h2
  go_wp2
  go_loopw [5] (fun i wr => ∃ k : Nat, k ≤ n1 ∧ i = .int .i64 k ∧ Hid (∀ (j : Nat), j < k → ∀ y : Lock, h[j]? = some y → cov1 y l = false) ∧ Below w1.heap.size w1 wr) (fun i _ => n1 - (intOf i).toNat)
  case atStart => exact ⟨0, Nat.zero_le _, rfl, fun j hj => absurd hj (by omega), Below.refl _ _⟩
  case round =>
    obtain ⟨k, hk, rfl, hall, hbw⟩ := hrel
    have HB := Lib.hid hbw
    have hsz := hbw.size
    clear hbw
    have hc0 := (HS1.out.below HB.out).cell 0
    simp at hc0
    by_cases hlt : k < n1
    · obtain ⟨b, off, y, rfl, hy, -⟩ := (HH1.out.below HB.out).at_ hlt
      have HY := Lib.hid hy
      have HR := Lib.hid ((HH1.out.below HB.out).row hy)
      clear hy
      go_upto_region 5 with (refine wpList_load_cells rfl 30 (.tmp 17) rfl ⟨b, off + k * 6, none⟩ rfl _ _ HR.out Tryz.underlying30 rfl hlenL ?_)
      obtain ⟨w4, g4, e1, e2, hb4, h4⟩ := boxes1 wr 30 (la y)
      unfold la at e1
      rw [e1, e2]
      have HB4 := Lib.hid (HB.out.trans (hb4.mono hsz))
      obtain ⟨a0, a1, a2, a3, a4, a5⟩ := lcells h4
      obtain ⟨b0, b1, b2, b3, b4, b5⟩ := lcells (HL1.out.below HB4.out)
      clear e1 e2 hb4 h4 hc0
      go_cut [46] (fun s wx => s = .bool (cov1 y l) ∧ Below w4.heap.size w4 wx)
      case first =>
        have HV := Lib.hid (show cov1 y l = ((y.unit == l.unit) && (y.id == l.id) && (y.x || !l.x) && covers y.r l.r) from by
          unfold cov1
          rw [show decide (y.unit = l.unit) = (y.unit == l.unit) from by rw [Bool.eq_iff_iff]; simp, show decide (y.id = l.id) = (y.id == l.id) from by rw [Bool.eq_iff_iff]; simp])
        generalize hyx : y.x = yx at *
        generalize hlx : l.x = lx at *
        cases hu : (y.unit == l.unit) <;> cases hi : (y.id == l.id) <;> cases yx <;> cases lx
        all_goals
          have hv := HV.out
          rw [hu, hi] at hv
          have HV2 := Lib.hid hv
          clear hv HV hyx hlx
          go_wp2_with (go_at_call 122; refine (refCovers35 y.r l.r _).mono ?_; rintro e w' ⟨rfl, hb2⟩; have HB22 := Lib.hid hb2; clear hb2)
          go_meet
          case rel => exact ⟨by rw [HV2.out]; simp, by first | exact HB22.out | exact Below.refl _ _⟩
      case rest =>
        obtain ⟨rfl, hbc⟩ := hcut
        have HBC := Lib.hid (HB4.out.trans (hbc.mono HB4.out.size))
        clear hbc a0 a1 a2 a3 a4 a5 b0 b1 b2 b3 b4 b5
        cases hcv : cov1 y l with
        | true =>
          have HO := Lib.hid (show covered h l = true from by rw [covered_any]; exact List.any_eq_true.2 ⟨y, List.mem_of_getElem? HY.out, hcv⟩)
          clear hcv
          go_wp2
          go_ret
          exact ⟨retBool HO.out.symm, HB1.out.trans (HBC.out.mono HB1.out.size)⟩
        | false =>
          have HCV := Lib.hid hcv
          clear hcv
          go_wp2
          go_roundw
          case rel =>
            refine ⟨k + 1, by omega, by go_num, ?_, HBC.out⟩
            intro j hj z hz
            by_cases hjk : j = k
            · subst hjk
              rw [HY.out] at hz
              obtain rfl := Option.some.inj hz
              exact HCV.out
            · exact hall.out j (by omega) z hz
          case measure => simp [intOf]; omega
    · have hkn : k = n1 := by omega
      subst hkn
      have HO := Lib.hid (show covered h l = false from by
        rw [covered_any, List.any_eq_false]
        intro y hy
        obtain ⟨j, hj⟩ := List.mem_iff_getElem?.1 hy
        have hl2 := HH.out.len
        have hj2 := (List.getElem?_eq_some_iff.1 hj).1
        rw [hall.out j (by omega) y hj]
        simp)
      go_wp2
      go_ret
      exact ⟨retBool HO.out.symm, HB1.out.trans (HB.out.mono HB1.out.size)⟩
end Go.Proofs.YtjklhiifjnmedaaGreat
namespace P46
open P16
/-- A number at the end of a list, if it is not in it. -/
def addNew (l : List Int) (x : Int) : List Int := if x ∈ l then l else l ++ [x]
def addAll (l xs : List Int) : List Int := xs.foldl addNew l
theorem addAll_take {l xs : List Int} {k : Nat} {x : Int} (h : xs[k]? = some x) : addAll l (xs.take (k + 1)) = addNew (addAll l (xs.take k)) x := by
  unfold addAll
  rw [List.take_add_one, h, List.foldl_append]
  rfl
/-- What the search has seen: the first ones, and behind them others, each once, all of 'us'. -/
def SeenR (bs us seen : List Int) : Prop := ∃ ex, seen = bs ++ ex ∧ ex.Nodup ∧ (∀ v ∈ ex, v ∈ us) ∧ ∀ v ∈ ex, v ∉ bs
theorem SeenR.nil (bs us : List Int) : SeenR bs us bs := ⟨[], by simp, by simp, by simp, by simp⟩
theorem SeenR.add {bs us seen : List Int} (h : SeenR bs us seen) {x : Int} (hx : x ∈ us) : SeenR bs us (addNew seen x) := by
  unfold addNew
  split
  · exact h
  · rename_i hn
    obtain ⟨ex, rfl, h1, h2, h3⟩ := h
    refine ⟨ex ++ [x], by simp, ?_, ?_, ?_⟩
    · rw [List.nodup_append]
      refine ⟨h1, by simp, ?_⟩
      intro a ha b hb e
      rw [List.mem_singleton.1 hb] at e
      subst e
      exact hn (List.mem_append_right _ ha)
    · intro v hv
      rcases List.mem_append.1 hv with hv | hv
      · exact h2 v hv
      · rw [List.mem_singleton.1 hv]
        exact hx
    · intro v hv
      rcases List.mem_append.1 hv with hv | hv
      · exact h3 v hv
      · rw [List.mem_singleton.1 hv]
        exact fun hb => hn (List.mem_append_left _ hb)
theorem SeenR.len {bs us seen : List Int} (h : SeenR bs us seen) : seen.length ≤ bs.length + us.length := by
  obtain ⟨ex, rfl, h1, h2, _⟩ := h
  have := nodup_len ex us h1 h2
  rw [List.length_append]
  omega
theorem mem_addNew {l : List Int} {x v : Int} : v ∈ addNew l x ↔ v ∈ l ∨ v = x := by
  unfold addNew
  split
  · rename_i h
    exact ⟨.inl, fun h' => h'.elim id (fun e => e ▸ h)⟩
  · simp
theorem mem_addAll : ∀ {xs l : List Int} {v : Int}, v ∈ addAll l xs ↔ v ∈ l ∨ v ∈ xs
  | [], l, v => by simp [addAll]
  | x :: xs, l, v => by
    have := mem_addAll (xs := xs) (l := addNew l x) (v := v)
    unfold addAll at this ⊢
    rw [List.foldl_cons, this, mem_addNew, List.mem_cons, or_assoc]
theorem SeenR.all {bs us : List Int} : ∀ {xs seen : List Int}, SeenR bs us seen → (∀ x ∈ xs, x ∈ us) → SeenR bs us (addAll seen xs)
  | [], _, h, _ => h
  | x :: xs, _, h, hx => SeenR.all (xs := xs) (h.add (hx x (by simp))) (fun y hy => hx y (List.mem_cons_of_mem _ hy))
theorem addNew_get {l : List Int} {x : Int} {j : Nat} {v : Int} (h : l[j]? = some v) : (addNew l x)[j]? = some v := by
  unfold addNew
  split
  · exact h
  · rw [List.getElem?_append_left (List.getElem?_eq_some_iff.1 h).1]
    exact h
theorem addAll_get : ∀ {xs l : List Int} {j : Nat} {v : Int}, l[j]? = some v → (addAll l xs)[j]? = some v
  | [], _, _, _, h => h
  | _ :: xs, _, _, _, h => addAll_get (xs := xs) (addNew_get h)
/-- The search has come to place i: those before it are not the unit, and whom they wait for is seen. -/
structure Wide (s : St) (bs : List Int) (u : Int) (i : Nat) (seen : List Int) : Prop where
  once : SeenR bs ((s.h ++ s.q).map (·.unit)) seen
  from_ : ∀ v ∈ seen, ∃ b ∈ bs, Reach s b v
  done : ∀ j, j < i → ∀ v, seen[j]? = some v → v ≠ u ∧ ∀ w ∈ blockers s v, w ∈ seen
theorem reach_trans {s : St} {a b c : Int} (h : Reach s a b) (k : Reach s b c) : Reach s a c := by
  induction h with
  | refl => exact k
  | step e _ ih => exact .step e (ih k)
theorem Wide.start (s : St) (bs : List Int) (u : Int) : Wide s bs u 0 bs :=
  ⟨SeenR.nil _ _, fun v hv => ⟨v, hv, .refl v⟩, fun j hj => absurd hj (by omega)⟩
theorem blocker_unit {s : St} {u v : Int} (h : v ∈ blockers s u) : v ∈ (s.h ++ s.q).map (·.unit) := by
  unfold blockers at h
  cases hi : idx s.q u with
  | none => rw [hi] at h; cases h
  | some i =>
    rw [hi] at h
    dsimp only at h
    obtain ⟨l, h1, _⟩ := idx_some hi
    rw [h1] at h
    dsimp only at h
    rcases mem_blks.1 h with ⟨y, hy, rfl, _⟩ | ⟨y, hy, rfl, _⟩
    · exact List.mem_map.2 ⟨y, List.mem_append_left _ hy, rfl⟩
    · exact List.mem_map.2 ⟨y, List.mem_append_right _ (List.mem_of_mem_take hy), rfl⟩
theorem Wide.next {s : St} (ho : Ones s.q) {bs : List Int} {u : Int} {i : Nat} {seen : List Int} (w : Wide s bs u i seen) {v : Int} (hv : seen[i]? = some v) (hne : v ≠ u) : Wide s bs u (i + 1) (addAll seen (blockers s v)) := by
  refine ⟨w.once.all (fun x hx => blocker_unit hx), ?_, ?_⟩
  · intro x hx
    rcases mem_addAll.1 hx with hx | hx
    · exact w.from_ x hx
    · obtain ⟨b, hb, hr⟩ := w.from_ v (List.mem_of_getElem? hv)
      exact ⟨b, hb, reach_trans hr (.step ((edge_blockers ho).2 hx) (.refl _))⟩
  · intro j hj x hx
    have hlt : j < seen.length := by
      have := (List.getElem?_eq_some_iff.1 hv).1
      omega
    obtain ⟨y, hy⟩ : ∃ y, seen[j]? = some y := ⟨_, List.getElem?_eq_getElem hlt⟩
    have h2 := addAll_get (xs := blockers s v) hy
    rw [hx] at h2
    obtain rfl := Option.some.inj h2
    by_cases hji : j = i
    · subst hji
      rw [hv] at hy
      obtain rfl := Option.some.inj hy
      exact ⟨hne, fun w' hw => mem_addAll.2 (.inr hw)⟩
    · obtain ⟨h3, h4⟩ := w.done j (by omega) x hy
      exact ⟨h3, fun w' hw => mem_addAll.2 (.inl (h4 w' hw))⟩
theorem Wide.yes {s : St} {bs : List Int} {u : Int} {i : Nat} {seen : List Int} (w : Wide s bs u i seen) (hv : seen[i]? = some u) : reaches s bs u = true :=
  reaches_iff.2 (w.from_ u (List.mem_of_getElem? hv))
theorem Wide.no {s : St} (ho : Ones s.q) {bs : List Int} {u : Int} {i : Nat} {seen : List Int} (w : Wide s bs u i seen) (hi : seen.length ≤ i) : reaches s bs u = false := by
  cases h : reaches s bs u with
  | false => rfl
  | true =>
    exfalso
    obtain ⟨b, hb, hr⟩ := reaches_iff.1 h
    have hcl : ∀ x ∈ seen, x ≠ u ∧ ∀ y ∈ blockers s x, y ∈ seen := by
      intro x hx
      obtain ⟨j, hj⟩ := List.mem_iff_getElem?.1 hx
      exact w.done j (by have := (List.getElem?_eq_some_iff.1 hj).1; omega) x hj
    have hbs : b ∈ seen := by
      obtain ⟨ex, rfl, _⟩ := w.once
      exact List.mem_append_left _ hb
    exact closed_no hcl ((path_reach ho).2 hr) hbs rfl
end P46
namespace Go.Proofs.YtjklhiifjnmedaaGreat
open Go.RowKit P16 P46 Go.Sort
attribute [local go_sem] ByteArray.mk_append_mk ByteArray.extract_mk mk_index
attribute [local irreducible] wpQuiet

/-- The wide search at work: the state's box, whom it has seen, whom the one in hand waits for. -/
structure RR (w wr : World) (p : Nat) (cs : Array Value) (vs : Value) (seen : List Int) (vb : Value) (bl : List Int) : Prop where
  st : Blk wr p tS cs
  seen : OwnI wr w.heap.size vs seen
  next : OwnI wr w.heap.size vb bl
  apart : vb.ownBlock = none ∨ vb.ownBlock ≠ vs.ownBlock
  low : Below w.heap.size w wr
section
variable {w wr w' : World} {p : Nat} {cs : Array Value} {vs vs' vb : Value} {seen seen' bl : List Int}
theorem RR.below (k : RR w wr p cs vs seen vb bl) (hb : Below wr.heap.size wr w') : RR w w' p cs vs seen vb bl :=
  ⟨k.st.below hb, k.seen.below hb, k.next.below hb, k.apart, k.low.trans (hb.mono k.low.size)⟩
theorem RR.push {ob : Obj} (k : RR w wr p cs vs seen vb bl) (hg : (wr.alloc ob).grownBy w' vs.ownBlock) (ho : OwnI w' w.heap.size vs' seen') (hat : vs'.ownBlock = vs.ownBlock ∨ vs'.ownBlock = some (wr.alloc ob).heap.size) : RR w w' p cs vs' seen' vb bl := by
  have hz := k.low.size
  refine ⟨(k.st.alloc ob).grown hg (ownI_ne k.seen k.st (by decide)), ho, (k.next.alloc ob).kept hg k.apart, ?_, (k.low.alloc hz _).grown hg (by rw [World.size_alloc]; omega) (fun j hj => (k.seen.lt j hj).1)⟩
  rcases hat with e | e
  · rw [e]
    exact k.apart
  · rw [e]
    refine .inr fun e2 => ?_
    have := (k.next.lt _ e2).2
    rw [World.size_alloc] at this
    omega
theorem RR.fresh (k : RR w wr p cs vs seen vb bl) {vb' : Value} {bl' : List Int} (hb : Below wr.heap.size wr w') (ho : OwnI w' wr.heap.size vb' bl') : RR w w' p cs vs seen vb' bl' := by
  refine ⟨k.st.below hb, k.seen.below hb, ho.base k.low.size, ?_, k.low.trans (hb.mono k.low.size)⟩
  cases h : vb'.ownBlock with
  | none => exact .inl rfl
  | some g =>
    refine .inr fun e => ?_
    have h1 := (ho.lt g h).1
    have h2 := (k.seen.lt g e.symm).2
    omega
end
theorem OwnI.reads3 {w : World} {B : Nat} {A : Option Addr} {n c : Nat} {xs : List Int} (h : OwnI w B (.slice A n c) xs) : IntsAt w A n xs ∧ xs.length = n := by
  obtain ⟨A9, c9, h9, hq9, -⟩ := h.cells
  injection h9 with h91 h92 h93
  subst h91
  exact ⟨by rw [h92]; exact hq9, h92.symm⟩
theorem blockers_len (s : St) (u : Int) : (blockers s u).length ≤ s.h.length + s.q.length := by
  unfold blockers
  split
  · simp
  · split
    · simp
    · rename_i i _ _ l _
      rw [blks_parts, List.length_append]
      have h1 := blkH_len s.h l
      have h2 := blkQ_len (own s.h l.unit) (s.q.take i) l
      have h3 := List.length_take_le' i s.q
      omega
theorem addAll_len (l xs : List Int) : l.length ≤ (addAll l xs).length := by
  unfold addAll
  induction xs generalizing l with
  | nil => exact Nat.le_refl _
  | cons x xs ih =>
    refine Nat.le_trans ?_ (ih (addNew l x))
    unfold addNew
    split
    · exact Nat.le_refl _
    · simp
theorem addAll_take_len (l xs : List Int) (j : Nat) : (addAll l (xs.take j)).length ≤ (addAll l xs).length := by
  have e : addAll l xs = addAll (addAll l (xs.take j)) (xs.drop j) := by
    unfold addAll
    rw [← List.foldl_append, List.take_append_drop]
  rw [e]
  exact addAll_len _ _
set_option maxRecDepth 100000 in
set_option maxHeartbeats 4000000 in
theorem refReaches (u : Int) (A1 A2 A3 : Option Addr) (n1 c1 n2 c2 n3 c3 : Nat) (h q : List Lock) (bs : List Int) (w : World) (hh : LocksAt w A1 n1 h) (hq : LocksAt w A2 n2 q) (hb : IntsAt w A3 n3 bs) (hnil : A3 = none → n3 = 0) (hn1 : n1 ≤ 100000) (hn2 : n2 ≤ 100000) (hn3 : n3 ≤ 100000) (ho : Ones q) :
    Calls Tryz.prog 101 #[.agg #[.slice A1 n1 c1, .slice A2 n2 c2], .slice A3 n3 c3, .int .i64 u] w fun e w' => e = .returned (.bool (reaches ⟨h, q⟩ bs u)) ∧ Below w.heap.size w w' := by
  have HH := Lib.hid hh
  have HQ := Lib.hid hq
  have HBS := Lib.hid hb
  have HNI := Lib.hid hnil
  have HON := Lib.hid (show Ones (St.mk h q).q from ho)
  clear hh hq hb hnil ho
  have hlenS : (Tryz.prog.info? tS).map (·.size) = some 2 := by kernel_rfl
  obtain ⟨i1, hi1, hy0, hy1, hy2⟩ := info_parts infoI
  have HI1 := Lib.hid hi1
  have HY0 := Lib.hid hy0
  have HY1 := Lib.hid hy1
  have HY2 := Lib.hid hy2
  clear hi1 hy0 hy1 hy2
  go_enter Tryz.func101, Tryz.ntmps101
  go_upto_region 1 with (fail)
  obtain ⟨w1, p, e1, e2, hb1, h1⟩ := boxes1 w tS #[.slice A1 n1 c1, .slice A2 n2 c2]
  rw [e1, e2]
  have HS1 := Lib.hid h1
  have HB1 := Lib.hid hb1
  have HI3 := Lib.hid (HBS.out.below hb1)
  have hz1 := hb1.size
  clear e1 e2 hb1 h1
  go_wp2_with (at_builtin; refine wpList_append_cells rfl (.tmp 11) (.tmp 12) _ rfl w.heap.size 3 i1 _ 1 8 Tryz.underlying34 HI1.out HY0.out HY1.out HY2.out rfl (by omega) (by omega) _ 0 0 [] rfl (by omega) (OwnI.empty w1 w.heap.size hz1) (bs.map (.int .i64)) A3 n3 c3 rfl HNI.out (HI3.out.below (below_alloc (Below.refl _ _) _)) (ints_one _) (by omega) (by simp; omega) ?_; intro v11 w11 hown11 hg11; have HO11 := Lib.hid hown11; have HG11 := Lib.hid hg11; clear hown11 hg11)
  have hp1 := HS1.out.lt
  have HR0 := Lib.hid (show RR w w11 p #[.slice A1 n1 c1, .slice A2 n2 c2] v11 bs (.slice none 0 0) [] from by
    have hl := HBS.out.len
    refine ⟨(HS1.out.alloc _).grown HG11.out (by simp [Value.ownBlock]; omega), ?_, OwnI.nil _ _, .inl rfl, (HB1.out.alloc hz1 _).grown HG11.out (by rw [World.size_alloc]; omega) (fun j hj => by simp [Value.ownBlock] at hj; omega)⟩
    have := HO11.out
    rw [Nat.zero_add, List.nil_append, ← hl] at this
    exact this)
  clear HO11 HG11 HI3
  obtain ⟨M, hM⟩ : ∃ M, bs.length + ((h ++ q).map (·.unit)).length = M := ⟨_, rfl⟩
  have hMb : M ≤ 300000 := by
    have hl := HBS.out.len
    have hl1 := HH.out.len
    have hl2 := HQ.out.len
    simp at hM
    omega
  have HMM := Lib.hid hM
  clear hM
  go_loopw [7, 8] (fun v i wr => ∃ (k : Nat) (seen : List Int), i = .int .i64 k ∧ k ≤ seen.length ∧ seen.length ≤ M ∧ Hid (Wide ⟨h, q⟩ bs u k seen) ∧ RR w wr p #[.slice A1 n1 c1, .slice A2 n2 c2] v seen (.slice none 0 0) []) (fun _ i _ => M - (intOf i).toNat)
  case atStart => exact ⟨0, bs, rfl, Nat.zero_le _, by have := HMM.out; omega, Wide.start _ _ _, HR0.out⟩
  case round =>
    obtain ⟨k, seen, rfl, hks, hsM, hwd, hr⟩ := hrel
    have HR := Lib.hid hr
    obtain ⟨A5, c5, rfl, hs5, -⟩ := hr.seen.cells
    have HS5 := Lib.hid hs5
    obtain ⟨m, hm⟩ : ∃ m, seen.length = m := ⟨_, rfl⟩
    have HLM := Lib.hid hm
    rw [hm] at hks hsM HS5 HR ⊢
    clear hr hs5 hm
    by_cases hlt : k < m
    · obtain ⟨b, off, x, rfl, hx, x0⟩ := HS5.out.at_ hlt
      have HX := Lib.hid hx
      clear hx
      have i0 : (0 : Int) ≤ (k : Int) := by omega
      have i1' : (k : Int) < (m : Int) := by omega
      by_cases hxu : x = u
      · have hb : (x == u) = true := by simp [hxu]
        have HY := Lib.hid (show reaches ⟨h, q⟩ bs u = true from hwd.out.yes (by rw [← hxu]; exact HX.out))
        clear hxu
        go_wp2
        go_ret
        exact ⟨retBool HY.out.symm, HR.out.low⟩
      · have hb : (x == u) = false := by simp [hxu]
        have HW := Lib.hid (hwd.out.next HON.out HX.out hxu)
        have hnew := HW.out.once.len
        rw [HMM.out] at hnew
        clear hxu
        have hHw := Lib.hid (HH.out.below HR.out.low)
        have hQw := Lib.hid (HQ.out.below HR.out.low)
        go_upto_region 7 with (fail)
        go_still_tail 5, (by kernel_rfl)
        refine wpStill_load_cells rfl tS (.tmp 3) rfl ⟨p, 0, none⟩ rfl #[.slice A1 n1 c1, .slice A2 n2 c2] _ (by exact HR.out.st.add) Tryz.underlying53 rfl hlenS ?_
        repeat still_step
        try refine wpStill_nil ?_
        have hbd := below_drewN (Below.refl wr.heap.size wr) 1
        have HRd := Lib.hid (HR.out.below hbd)
        go_wp2_with (go_at_call 123; refine (refBlockers x A1 A2 n1 c1 n2 c2 h q _ (hHw.out.below hbd) (hQw.out.below hbd) hn1 hn2).mono ?_; rintro e w5 ⟨v5, rfl, ho5, hb5⟩; have HRF := Lib.hid (HRd.out.fresh hb5 ho5); clear ho5 hb5)
        obtain ⟨A6, c6, rfl, hs6, -⟩ := HRF.out.next.cells
        have hl6 := blockers_len ⟨h, q⟩ x
        simp only [HH.out.len, HQ.out.len] at hl6
        generalize blockers ⟨h, q⟩ x = bl at *
        obtain ⟨m6, hm6⟩ : ∃ m6, bl.length = m6 := ⟨_, rfl⟩
        rw [hm6] at HRF ⊢
        have HL6 := Lib.hid hm6
        have HMN := Lib.hid hnew
        clear hs6 hm6 HRd hbd hHw hQw x0 HS5 HR hwd hnew
        obtain ⟨wo, hwo⟩ : ∃ wo : World, wo = wr := ⟨_, rfl⟩
        clear hwo
        rw [HL6.out] at hl6
        go_loopw [7, 10] (fun v i wr => ∃ (j : Nat) (se : List Int), i = .int .i64 j ∧ j ≤ m6 ∧ Hid (se = addAll seen (bl.take j)) ∧ RR w wr p #[.slice A1 n1 c1, .slice A2 n2 c2] v se (.slice A6 m6 c6) bl) (fun _ i _ => m6 - (intOf i).toNat)
        case atStart => exact ⟨0, seen, rfl, Nat.zero_le _, rfl, HRF.out⟩
        case round =>
          obtain ⟨j, se, rfl, hj, hse, hr⟩ := hrel
          have HR := Lib.hid hr
          obtain ⟨A5, c5, rfl, hs5, -⟩ := hr.seen.cells
          have HS5 := Lib.hid hs5
          obtain ⟨hs6, -⟩ := hr.next.reads3
          have HS6 := Lib.hid hs6
          clear hr hs5 hs6
          by_cases hlt6 : j < m6
          · obtain ⟨b6, off6, y, rfl, hy, y0⟩ := HS6.out.at_ hlt6
            have HY := Lib.hid (addAll_take (l := seen) hy)
            have hsl : se.length ≤ M := by
              rw [hse.out]
              exact Nat.le_trans (addAll_take_len _ _ _) HMN.out
            obtain ⟨ms, hms⟩ : ∃ ms, se.length = ms := ⟨_, rfl⟩
            rw [hms] at HR HS5 hsl ⊢
            have HMS := Lib.hid hms
            have j0 : (0 : Int) ≤ (j : Int) := by omega
            have j1 : (j : Int) < (m6 : Int) := by omega
            clear hms hy
            by_cases hme : y ∈ se
            · have HME := Lib.hid (decide_eq_true hme)
              have HAD := Lib.hid (show addAll seen (bl.take (j + 1)) = se from by rw [HY.out, ← hse.out]; unfold addNew; rw [if_pos hme])
              clear hme
              go_wp2_with (go_at_call 124; refine (refHas A5 ms c5 se y _ HS5.out (by omega)).mono ?_; rintro e w8 ⟨rfl, hb8⟩; rw [HME.out]; have HR8 := Lib.hid (HR.out.below hb8); have y8 : w8.cell? ⟨b6, off6 + j, none⟩ = some (.int .i64 y) := (by rw [hb8.cell (p := ⟨b6, off6 + j, none⟩) (World.block_lt_of_cell? wr _ y0)]; exact y0); have hz8 := HR8.out.low.size; clear hb8)
              go_roundw
              case rel => exact ⟨j + 1, se, by go_num, by omega, by rw [HAD.out]; rfl, HR8.out⟩
              case measure => simp [intOf]; omega
            · have HME := Lib.hid (decide_eq_false hme)
              have HAD := Lib.hid (show addAll seen (bl.take (j + 1)) = se ++ [y] from by rw [HY.out, ← hse.out]; unfold addNew; rw [if_neg hme])
              clear hme
              go_wp2_with (first | (go_at_call 124; refine (refHas A5 ms c5 se y _ HS5.out (by omega)).mono ?_; rintro e w8 ⟨rfl, hb8⟩; rw [HME.out]; have HR8 := Lib.hid (HR.out.below hb8); have y8 : w8.cell? ⟨b6, off6 + j, none⟩ = some (.int .i64 y) := (by rw [hb8.cell (p := ⟨b6, off6 + j, none⟩) (World.block_lt_of_cell? wr _ y0)]; exact y0); have hz8 := HR8.out.low.size; clear hb8) | (at_builtin; refine wpList_append_int rfl (.tmp 45) (.tmp 50) _ rfl w.heap.size i1 _ Tryz.underlying34 HI1.out HY0.out HY1.out HY2.out rfl _ se rfl (HR8.out.seen.alloc _) y w8.heap.size 1 rfl (World.cell?_alloc_mark w8 _ 3 (0, 0) 0) (by rw [HMS.out]; omega) (by simp; omega) ?_; intro v11 w11 hown11 hg11 hat11; have HR11 := Lib.hid (HR8.out.push hg11 hown11 hat11); clear hown11 hg11 hat11))
              go_roundw
              case rel => exact ⟨j + 1, se ++ [y], by go_num, by omega, by rw [HAD.out]; rfl, HR11.out⟩
              case measure => simp [intOf]; omega
          · have hjm : j = m6 := by omega
            subst hjm
            have he : bl.take j = bl := List.take_of_length_le (by rw [HL6.out]; exact Nat.le_refl _)
            rw [he] at hse
            have HW9 := Lib.hid (show Wide ⟨h, q⟩ bs u (k + 1) se from by rw [hse.out]; exact HW.out)
            have HM9 := Lib.hid (show se.length ≤ M from by rw [hse.out]; exact HMN.out)
            have HK9 := Lib.hid (show k + 1 ≤ se.length from by
              have h1 := addAll_len seen bl
              rw [← hse.out, HLM.out] at h1
              omega)
            clear he hse
            go_wp2
            go_roundw
            case rel => exact ⟨k + 1, se, by go_num, HK9.out, HM9.out, HW9.out, ⟨HR.out.st, HR.out.seen, OwnI.nil _ _, .inl rfl, HR.out.low⟩⟩
            case measure => simp [intOf]; omega
    · have hkm : k = m := by omega
      have HN := Lib.hid (show reaches ⟨h, q⟩ bs u = false from hwd.out.no HON.out (by rw [HLM.out]; omega))
      subst hkm
      go_wp2
      go_ret
      exact ⟨retBool HN.out.symm, HR.out.low⟩
end Go.Proofs.YtjklhiifjnmedaaGreat
