/- dasdref31.Valid: the same as the program's. The reference's sorted: a wish put in the order of its names. The reference's Holders. The reference's Blocks. -/
import Derived.Test.YtojbddcbnnbklaaGreatDoorRoGa
import Derived.Test.YtojbddcbnnbklaaGreatDoorDsVal
import Derived.StillTailTactics
import Derived.Deep.QuietTactic
import Derived.BigQuiet
import Derived.Laws.OwnMore
import Derived.Test.YtojbddcbnnbklaaGreatDoorRoGb
import Derived.Sort.Walk0
namespace Go.Proofs.YtojbddcbnnbklaaGreatDoor
open Go.RowKit P43
attribute [local go_sem] ByteArray.mk_append_mk ByteArray.extract_mk mk_index

abbrev tSt : TypeId := 9
theorem infoS9 : (Tryz.prog.info? tSt).map (fun i => (i.zero, i.size, i.bytes)) = some (some (.string ⟨#[]⟩), 1, 16) := by kernel_rfl
theorem refLetter (b : Int) (w : World) : Calls Tryz.prog 94 #[.int .u8 b] w fun e w' => e = .returned (.bool (upI b)) ∧ w = w' := by
  unfold upI
  go_enter Tryz.func94, Tryz.ntmps94
  go_wp2
  all_goals go_ret
  all_goals (refine ⟨retBool ?_, rfl⟩; rw [Bool.eq_iff_iff]; simp only [Bool.and_eq_true, decide_eq_true_eq] at *; simp; try omega)
theorem refDigit (b : Int) (w : World) : Calls Tryz.prog 93 #[.int .u8 b] w fun e w' => e = .returned (.bool (dgI b)) ∧ w = w' := by
  unfold dgI
  go_enter Tryz.func93, Tryz.ntmps93
  go_wp2
  all_goals go_ret
  all_goals (refine ⟨retBool ?_, rfl⟩; rw [Bool.eq_iff_iff]; simp only [Bool.and_eq_true, decide_eq_true_eq] at *; simp; try omega)
theorem up_dg {b : Int} (h : upI b = true) : dgI b = false := by
  unfold upI at h
  unfold dgI
  simp only [Bool.and_eq_true, decide_eq_true_eq] at h
  have : ¬ b ≤ 57 := by omega
  simp [this]
theorem qual_dg {c : UInt8} {r : List UInt8} (h : dgI c.toNat = true) : qualB (c :: r) = false := by
  have hu : upI c.toNat = false := by
    cases hu : upI c.toNat with
    | false => rfl
    | true => rw [up_dg hu] at h; cases h
  simp [qualB, hu]
theorem qual_all {c : UInt8} {r : List UInt8} (h : dgI c.toNat = false) (h7 : r.length ≤ 7) : qualB (c :: r) = (c :: r).all fun x => plI x.toNat := by
  simp [qualB, h7, plI, h]
set_option maxRecDepth 100000 in
set_option maxHeartbeats 4000000 in
theorem refPart (l : List UInt8) (w : World) (hl : l.length ≤ 1000000) : Calls Tryz.prog 76 #[.string ⟨l.toArray⟩, .bool false] w fun e w' => e = .returned (.bool (qualB l)) ∧ w = w' := by
  go_enter Tryz.func76, Tryz.ntmps76
  cases l with
  | nil =>
    go_wp2
    go_ret
    exact ⟨rfl, rfl⟩
  | cons c r =>
    have HD := Lib.hid (refDigit c.toNat w)
    by_cases h7 : r.length ≤ 7
    · have h7' : ¬ (8 : Int) < (r.length : Int) + 1 := by omega
      have h7'' : ¬ (r.length : Int) + 1 < 1 := by omega
      cases hu : dgI c.toNat with
      | true =>
        rw [hu] at HD
        go_wp2_with (go_at_call 93; refine HD.out.mono ?_; rintro e w' ⟨rfl, rfl⟩)
        go_ret
        exact ⟨retBool (qual_dg hu).symm, rfl⟩
      | false =>
        rw [hu] at HD
        have HQ := Lib.hid (qual_all hu h7)
        go_wp2_with (go_at_call 93; refine HD.out.mono ?_; rintro e w' ⟨rfl, rfl⟩)
        obtain ⟨l, hcl⟩ : ∃ l, c :: r = l := ⟨_, rfl⟩
        have hll : l.length = r.length + 1 := by rw [← hcl]; rfl
        have hl8 : l.length ≤ 8 := by omega
        have HQ' := Lib.hid (show qualB (c :: r) = l.all fun x => plI x.toNat from by rw [HQ.out, hcl])
        rw [hcl]
        clear HQ hcl hll h7' h7'' HD hu hl h7
        go_loopw [5] (fun i wr => ∃ j : Nat, j ≤ l.length ∧ i = .int .i64 j ∧ wr = w ∧ ((l.take j).all fun x => plI x.toNat) = true) (fun i _ => l.length - (intOf i).toNat)
        case atStart => exact ⟨0, Nat.zero_le _, rfl, rfl, by simp⟩
        case round =>
          obtain ⟨j, hj, rfl, rfl, hall⟩ := hrel
          by_cases hlt : j < l.length
          · have HALL := Lib.hid (all_take (fun x : UInt8 => plI x.toNat) (List.getElem?_eq_getElem hlt))
            have HA := Lib.hid hall
            have HP := Lib.hid (refLetter (l[j]'hlt).toNat wr)
            have HP2 := Lib.hid (refDigit (l[j]'hlt).toNat wr)
            have hj1 : (j : Int) < (l.length : Int) := by omega
            have hj2 : (0 : Int) ≤ (j : Int) := by omega
            clear hall
            cases hp : upI (l[j]'hlt).toNat with
            | true =>
              rw [hp] at HP
              go_wp2_with (go_at_call 94; refine HP.out.mono ?_; rintro e w' ⟨rfl, rfl⟩)
              go_roundw
              case rel => exact ⟨j + 1, hlt, by simp, trivial, by rw [HALL.out, HA.out]; simp [plI, hp]⟩
              case measure => dsimp only [intOf]; omega
            | false =>
              rw [hp] at HP
              cases hp2 : dgI (l[j]'hlt).toNat with
              | true =>
                rw [hp2] at HP2
                go_wp2_with (first | (go_at_call 94; refine HP.out.mono ?_; rintro e w' ⟨rfl, rfl⟩) | (go_at_call 93; refine HP2.out.mono ?_; rintro e w' ⟨rfl, rfl⟩))
                go_roundw
                case rel => exact ⟨j + 1, hlt, by simp, trivial, by rw [HALL.out, HA.out]; simp [plI, hp2]⟩
                case measure => dsimp only [intOf]; omega
              | false =>
                rw [hp2] at HP2
                go_wp2_with (first | (go_at_call 94; refine HP.out.mono ?_; rintro e w' ⟨rfl, rfl⟩) | (go_at_call 93; refine HP2.out.mono ?_; rintro e w' ⟨rfl, rfl⟩))
                go_ret
                have hx : l.all (fun x => plI x.toNat) = false := by
                  rw [List.all_eq_false]
                  exact ⟨_, List.getElem_mem hlt, by simp [plI, hp, hp2]⟩
                exact ⟨retBool (by rw [HQ'.out, hx]), rfl⟩
          · have hjn : j = l.length := by omega
            have hj1 : ¬ (j : Int) < (l.length : Int) := by omega
            go_wp2
            go_ret
            rw [hjn, List.take_length] at hall
            exact ⟨retBool (by rw [HQ'.out, hall]), rfl⟩
    · have h7' : (8 : Int) < (r.length : Int) + 1 := by omega
      have h7'' : ¬ (r.length : Int) + 1 < 1 := by omega
      go_wp2
      go_ret
      exact ⟨by simp [qualB, h7], rfl⟩
theorem partsP_le : ∀ (l : List UInt8), (partsP l).length ≤ l.length + 1 ∧ ∀ q ∈ partsP l, q.length ≤ l.length
  | [] => by simp [partsP]
  | c :: r => by
    obtain ⟨h1, h2⟩ := partsP_le r
    obtain ⟨p, ps, hp⟩ := List.exists_cons_of_ne_nil (partsP_ne r)
    unfold partsP
    split
    · refine ⟨by simp; omega, fun q hq => ?_⟩
      rcases List.mem_cons.1 hq with rfl | hq
      · simp
      · have := h2 q hq
        simp
        omega
    · rw [hp] at h1 h2 ⊢
      refine ⟨by simp at h1 ⊢; omega, fun q hq => ?_⟩
      simp only [List.headD_cons, List.tail_cons] at hq
      rcases List.mem_cons.1 hq with rfl | hq
      · have := h2 p (List.mem_cons_self ..)
        simp
        omega
      · have := h2 q (List.mem_cons_of_mem _ hq)
        simp
        omega
/-- The last part. -/
theorem parts_last (l : List UInt8) : ∃ ps q, partsP l = ps ++ [q] ∧ (partsP l).dropLast = ps ∧ (partsP l).getLastD [] = q := by
  have h := List.dropLast_concat_getLast (partsP_ne l)
  refine ⟨_, _, h.symm, rfl, ?_⟩
  conv => lhs; rw [← h]
  simp
theorem OwnS.one {w : World} {B g : Nat} {e : TypeId} (hB : B ≤ g) (h : Blk w g e #[.string ⟨#[]⟩]) : OwnS w B e (.slice (some ⟨g, 0, none⟩) 1 1) [[]] :=
  ⟨rfl, .inr ⟨g, 1, #[.string ⟨#[]⟩], rfl, hB, h, Nat.le_refl _, by decide, rfl, rfl⟩⟩
/-- The last part's cell. -/
theorem OwnS.last {w : World} {B : Nat} {e : TypeId} {v : Value} {ps : List (List UInt8)} {q : List UInt8} {m : Nat} (hm : ps.length = m) (h : OwnS w B e v (ps ++ [q])) : ∃ g c, v = .slice (some ⟨g, 0, none⟩) (m + 1) c ∧ B ≤ g ∧ w.cell? ⟨g, m, none⟩ = some (.string ⟨q.toArray⟩) ∧ w.frozen? ⟨g, m, none⟩ = false ∧ g < w.heap.size ∧
    ∀ q' : List UInt8, OwnS (w.setCell ⟨g, m, none⟩ (.string ⟨q'.toArray⟩)) B e (.slice (some ⟨g, 0, none⟩) (m + 1) c) (ps ++ [q']) := by
  subst hm
  have h0 := h
  unfold OwnS at h0
  rcases h.2 with ⟨_, h1⟩ | ⟨g, cap, cur, rfl, hB, hb, h1, h2, _⟩
  · simp at h1
  · have hc := World.ownsRow.cells h (g := g) rfl ps.length (.string ⟨q.toArray⟩) (by simp)
    rw [Addr.add_lit, Nat.zero_add] at hc
    refine ⟨g, cap, by simp, hB, hc, World.ownsRow.frozenAt h ps.length, (Array.getElem?_eq_some_iff.1 hb).1, fun q' => ?_⟩
    have h3 := (World.ownsRow.stored h ps.length (.string ⟨q'.toArray⟩)).1
    unfold OwnS
    simp only [List.length_append, List.length_cons, List.length_nil, List.map_append, List.map_cons, List.map_nil] at h3 ⊢
    rw [List.set_append_right _ _ (by simp)] at h3
    simpa using h3
set_option maxRecDepth 100000 in
set_option maxHeartbeats 4000000 in
theorem refParts (l : List UInt8) (w : World) (hl : l.length ≤ 1000) : Calls Tryz.prog 75 #[.string ⟨l.toArray⟩] w fun e w' => ∃ v, e = .returned v ∧ OwnS w' w.heap.size tSt v (partsP l) ∧ Below w.heap.size w w' := by
  obtain ⟨i1, hi1', hy0, hy1, hy2⟩ := info_parts infoS9
  have HI1 := Lib.hid hi1'
  have HY0 := Lib.hid hy0
  have HY1 := Lib.hid hy1
  have HY2 := Lib.hid hy2
  clear hi1' hy0 hy1 hy2
  go_enter Tryz.func75, Tryz.ntmps75
  go_wp2
  obtain ⟨w2, q2, e1, e2, hb2, hq2⟩ := boxes1 w tSt #[.string ⟨#[]⟩]
  rw [e1, e2]
  have HB2 := Lib.hid hb2
  have HO2 := Lib.hid (OwnS.one (B := w.heap.size) (by omega) hq2)
  clear e1 e2 hb2 hq2
  go_loopw [3, 4] (fun ov iv wr => ∃ k : Nat, k ≤ l.length ∧ iv = .int .i64 k ∧ OwnS wr w.heap.size tSt ov (partsP (l.take k)) ∧ Below w.heap.size w wr) (fun _ iv _ => l.length - (intOf iv).toNat)
  case atStart => exact ⟨0, Nat.zero_le _, rfl, HO2.out, HB2.out⟩
  case round =>
    obtain ⟨k, hk, rfl, ho, hb⟩ := hrel
    have HO := Lib.hid ho
    have HB := Lib.hid hb
    have hsz := hb.size
    clear ho hb
    by_cases hlt : k < l.length
    · have HSN := Lib.hid (show partsP (l.take (k + 1)) = if l[k]'hlt = 46 then partsP (l.take k) ++ [[]] else (partsP (l.take k)).dropLast ++ [(partsP (l.take k)).getLastD [] ++ [l[k]'hlt]] from by
        rw [List.take_add_one, List.getElem?_eq_getElem hlt]
        exact partsP_snoc (l.take k) (l[k]'hlt))
      have hk1 : (k : Int) < (l.length : Int) := by omega
      have hk2 : (0 : Int) ≤ (k : Int) := by omega
      obtain ⟨hpl, hpq⟩ := partsP_le (l.take k)
      have htl := List.length_take_le k l
      by_cases hd : l[k]'hlt = 46
      · have b0 : (((l[k]'hlt).toNat : Int) == 46) = true := by rw [hd]; rfl
        have HLP := Lib.hid (show (partsP (l.take k)).length ≤ 1000000 from by omega)
        have HDD := Lib.hid hd
        clear hpl hpq hd
        go_wp2_with (at_builtin; refine wpList_append_str rfl (.tmp 16) (.tmp 17) _ rfl w.heap.size tSt i1 _ Tryz.underlying80 HI1.out HY0.out HY1.out HY2.out rfl _ (partsP (l.take k)) rfl (HO.out.alloc _) [] ⟨wr.heap.size, 0, none⟩ 1 rfl (World.cell?_alloc_mark wr _ tSt (0, 0) 0) HLP.out (by simp; omega) ?_; intro v3 w3 hown3 hb3 hg3 hat3; have HO3 := Lib.hid hown3; have HB3 := Lib.hid ((HB.out.alloc hsz _).trans hb3); clear hown3 hb3 hg3 hat3)
        exact ⟨⟨k + 1, hlt, by simp, by rw [HSN.out, if_pos HDD.out]; exact HO3.out, HB3.out⟩, by dsimp only [intOf]; omega⟩
      · have b0 : (((l[k]'hlt).toNat : Int) == 46) = false := by
          rw [beq_eq_false_iff_ne]
          intro e
          have h46 : (l[k]'hlt).toNat = 46 := by omega
          exact hd (UInt8.toNat_inj.1 h46)
        obtain ⟨ps, q, hpq1, hpd, hpg⟩ := parts_last (l.take k)
        have hq1 : q.length ≤ 1000 := by have := hpq q (by rw [hpq1]; simp); omega
        have hp1 : ps.length ≤ 1000 := by rw [hpq1] at hpl; simp at hpl; omega
        have HDD := Lib.hid hd
        rw [hpd, hpg] at HSN
        rw [hpq1] at HO
        obtain ⟨m, hm⟩ : ∃ m, ps.length = m := ⟨_, rfl⟩
        obtain ⟨g, c, rfl, hg, x0, f0, hgl, hset⟩ := HO.out.last hm
        have HSET := Lib.hid hset
        have HG := Lib.hid hg
        rw [hm] at hp1
        have hk3 : (k : Int) + 1 ≤ (l.length : Int) := by omega
        clear hpl hpq hd hpq1 hpd hpg hm hset hg
        go_upto_region 7 with (fail)
        have hm1 : (m : Int) < (m : Int) + 1 := by omega
        have hm2 : (0 : Int) ≤ (m : Int) := by omega
        have hk4 : (k : Int) ≤ (k : Int) + 1 := by omega
        have hk5 : (0 : Int) ≤ (k : Int) + 1 := by omega
        have hq2 : ¬ 9223372036854775807 < q.length + 1 := by omega
        have htk : List.take 1 (List.drop k l) = [l[k]'hlt] := by rw [List.drop_eq_getElem_cons hlt]; rfl
        have hwm := IntWalk.i64_in (m : Int) (by omega)
        have hwk := IntWalk.i64_in ((k : Int) + 1) (by omega)
        go_still_tail 17, (by kernel_rfl)
        go_wp2
        exact ⟨⟨k + 1, hlt, by simp, by rw [HSN.out, if_neg HDD.out]; exact (HSET.out (q ++ [l[k]'hlt])).drew, (HB.out.setCell HG.out _).drew⟩, by dsimp only [intOf]; omega⟩
    · have hkn : k = l.length := by omega
      have hk1 : ¬ (k : Int) < (l.length : Int) := by omega
      go_wp2
      go_ret
      have h := HO.out
      rw [hkn, List.take_length] at h
      exact ⟨_, rfl, h, HB.out⟩
theorem splitK_parts : ∀ (l : List UInt8), Lib.splitK [46] 0 (Lib.count l [46]) l = partsP l
  | [] => by
    rw [Lib.count_one]
    rfl
  | c :: r => by
    have ih := splitK_parts r
    by_cases h : c = 46
    · subst h
      rw [Lib.count_cons_eq, Nat.add_comm, Lib.splitK]
      have hix : Lib.index (46 :: r) [46] = ((0 : Nat) : Int) := by rw [Lib.index]; simp [List.isPrefixOf]
      rw [hix, if_neg (by decide)]
      simp only [Int.toNat_natCast, Nat.zero_add, List.take_zero, List.length_cons, List.length_nil, List.drop_succ_cons, List.drop_zero]
      rw [ih, partsP, if_pos rfl]
    · rw [Lib.count_cons_ne c 46 r h, partsP, if_neg h, ← ih]
      have hp : ([46] : List UInt8).isPrefixOf (c :: r) = false := by simp [List.isPrefixOf, Ne.symm h]
      have hix : Lib.index (c :: r) [46] = if Lib.index r [46] == -1 then -1 else Lib.index r [46] + 1 := by rw [Lib.index, hp]; simp
      by_cases hm : Lib.index r [46] = -1
      · rw [Lib.count_miss hm, Lib.splitK, Lib.splitK]
        rfl
      · have hge := Lib.index_ge r [46]
        obtain ⟨j, hj⟩ : ∃ j : Nat, Lib.index r [46] = j := ⟨(Lib.index r [46]).toNat, by omega⟩
        have hix' : Lib.index (c :: r) [46] = ((j + 1 : Nat) : Int) := by rw [hix, if_neg (fun e => hm (beq_iff_eq.1 e)), hj]; omega
        rw [Lib.count_hit (by simp) hj, Nat.add_comm, Lib.splitK, Lib.splitK, hix', hj, if_neg (by intro e; have := beq_iff_eq.1 e; omega), if_neg (by intro e; have := beq_iff_eq.1 e; omega)]
        simp
theorem pieces_parts (l : List UInt8) : (pieces l).map (·.data.toList) = partsP l := by
  unfold pieces
  rw [Lib.splitB_data]
  exact splitK_parts l
theorem valid_parts (l : List UInt8) : validB l = (decide (1 ≤ l.length) && decide (l.length ≤ 31) && (partsP l).all qualB) := by
  unfold validB
  rw [← pieces_parts, List.all_map]
  rfl
theorem strs_row {w : World} {B : Nat} {e : TypeId} {v : Value} {ss : List (List UInt8)} (h : OwnS w B e v ss) : ∃ A c, v = .slice A ss.length c ∧ ∀ (j : Nat) (q : List UInt8), ss[j]? = some q → ∃ b off, A = some ⟨b, off, none⟩ ∧ w.cell? ⟨b, off + j, none⟩ = some (.string ⟨q.toArray⟩) := by
  rcases h.2 with ⟨rfl, h0⟩ | ⟨g, cap, cur, rfl, _, _, h1, h2, _⟩
  · have : ss = [] := List.eq_nil_of_length_eq_zero h0
    subst this
    exact ⟨none, 0, rfl, fun j q h => by simp at h⟩
  · refine ⟨_, _, rfl, fun j q hj => ⟨g, 0, rfl, ?_⟩⟩
    have hc := World.ownsRow.cells h (g := g) rfl j (.string ⟨q.toArray⟩) (by rw [List.getElem?_map, hj]; rfl)
    rw [Addr.add_lit] at hc
    exact hc
set_option maxRecDepth 100000 in
set_option maxHeartbeats 4000000 in
theorem refValid0 (l : List UInt8) (w : World) (hl : l.length ≤ 1000) : Calls Tryz.prog 59 #[.string ⟨l.toArray⟩, .bool false] w fun e w' => e = .returned (.bool (validB l)) ∧ Below w.heap.size w w' := by
  have HV := Lib.hid (valid_parts l)
  go_enter Tryz.func59, Tryz.ntmps59
  by_cases h1 : l.length < 1
  · have h1' : (l.length : Int) < 1 := by omega
    go_wp2
    go_ret
    exact ⟨retBool (by rw [HV.out]; have e : l.length = 0 := by omega
                       simp [e]), Below.refl _ _⟩
  · by_cases h2 : 31 < l.length
    · have h1' : ¬ (l.length : Int) < 1 := by omega
      have h2' : (31 : Int) < (l.length : Int) := by omega
      go_wp2
      go_ret
      exact ⟨retBool (by rw [HV.out]; have e : ¬ l.length ≤ 31 := by omega
                         simp [e]), Below.refl _ _⟩
    · have h1' : ¬ (l.length : Int) < 1 := by omega
      have h2' : ¬ (31 : Int) < (l.length : Int) := by omega
      have HV2 := Lib.hid (show validB l = (partsP l).all qualB from by
        have e1 : 1 ≤ l.length := by omega
        have e2 : l.length ≤ 31 := by omega
        rw [valid_parts]
        simp [e1, e2])
      have HLE := Lib.hid (partsP_le l)
      go_wp2_with (go_at_call 75; refine (refParts l _ hl).mono ?_; rintro e w1 ⟨v, rfl, hb, hB⟩; have HB := Lib.hid hb; have HP := Lib.hid hB; clear hb hB)
      obtain ⟨ps, hps⟩ : ∃ ps, partsP l = ps := ⟨_, rfl⟩
      rw [hps] at HB HV2 HLE
      obtain ⟨A, c, rfl, hcell⟩ := strs_row HB.out
      obtain ⟨n, hn⟩ : ∃ n, ps.length = n := ⟨_, rfl⟩
      have HN := Lib.hid hn
      have HCL := Lib.hid hcell
      have hn1 : n ≤ 1001 := by have := HLE.out.1; omega
      rw [hn]
      clear hps hn hcell
      go_loopw [6] (fun i wr => ∃ j : Nat, j ≤ n ∧ i = .int .i64 j ∧ wr = w1 ∧ ((ps.take j).all qualB) = true) (fun i _ => n - (intOf i).toNat)
      case atStart => exact ⟨0, Nat.zero_le _, rfl, rfl, by simp⟩
      case round =>
        obtain ⟨j, hj, rfl, rfl, hall⟩ := hrel
        by_cases hlt : j < n
        · have hlt' : j < ps.length := by rw [HN.out]; exact hlt
          obtain ⟨q, hq⟩ : ∃ q, ps[j]? = some q := ⟨_, List.getElem?_eq_getElem hlt'⟩
          obtain ⟨b, off, rfl, x0⟩ := HCL.out j q hq
          have HALL := Lib.hid (all_take qualB hq)
          have hqm := List.mem_of_getElem? hq
          have HA := Lib.hid hall
          have HC1 := Lib.hid (refPart q wr (by have := HLE.out.2 q hqm; omega))
          have HNP := Lib.hid (show qualB q = false → ps.all qualB = false from fun h => by
            rw [List.all_eq_false]
            exact ⟨q, hqm, by simp [h]⟩)
          have hj1 : (j : Int) < (n : Int) := by omega
          have hj2 : (0 : Int) ≤ (j : Int) := by omega
          clear hall hq hqm hlt'
          obtain ⟨c, hc⟩ : ∃ c, qualB q = c := ⟨_, rfl⟩
          cases c with
          | false =>
            rw [hc] at HC1
            go_wp2_with (go_at_call 76; refine HC1.out.mono ?_; rintro e w' ⟨rfl, rfl⟩)
            go_ret
            exact ⟨retBool (by rw [HV2.out, HNP.out hc]), HP.out⟩
          | true =>
            rw [hc] at HC1
            go_wp2_with (go_at_call 76; refine HC1.out.mono ?_; rintro e w' ⟨rfl, rfl⟩)
            go_roundw
            case rel => exact ⟨j + 1, hlt, by simp, trivial, by rw [HALL.out, HA.out, hc]; rfl⟩
            case measure => dsimp only [intOf]; omega
        · have hjn : j = n := by omega
          have hj1 : ¬ (j : Int) < (n : Int) := by omega
          have HA := Lib.hid hall
          clear hall
          go_wp2
          go_ret
          refine ⟨retBool ?_, HP.out⟩
          have h := HA.out
          rw [hjn, ← HN.out, List.take_length] at h
          rw [HV2.out, h]
theorem refValid (l : List UInt8) (w : World) (hl : l.length ≤ 1000) : Calls Tryz.prog 43 #[.string ⟨l.toArray⟩] w fun e w' => e = .returned (.bool (validB l)) ∧ Below w.heap.size w w' := by
  have HA := Lib.hid (refValid0 l w hl)
  go_enter Tryz.func43, Tryz.ntmps43
  go_wp2_with (go_at_call 59; refine HA.out.mono ?_; rintro e w' ⟨rfl, hb⟩; have HB := Lib.hid hb; clear hb)
  go_ret
  exact ⟨rfl, HB.out⟩
end Go.Proofs.YtojbddcbnnbklaaGreatDoor
namespace Go.Proofs.YtojbddcbnnbklaaGreatDoor
open Go.RowKit P43 Go.Sort
attribute [local go_sem] ByteArray.mk_append_mk ByteArray.extract_mk mk_index
attribute [local irreducible] wpQuiet

theorem OwnN.empty {w : World} {B g : Nat} (hB : B ≤ g) (h : Blk w g tNL #[]) : OwnN w B tNL (.slice (some ⟨g, 0, none⟩) 0 0) [] :=
  ⟨rfl, .inr ⟨g, 0, #[], rfl, hB, h, Nat.le_refl _, by decide, rfl, rfl⟩⟩
theorem all_snoc {vb : Nm → Bool} {l : List (Nm × Bool)} {k : Nat} {q : Nm × Bool} (h : l[k]? = some q) : ((l.take (k + 1)).all fun p => vb p.1) = (((l.take k).all fun p => vb p.1) && vb q.1) := by
  rw [List.take_add_one, h, List.all_append]
  simp
theorem ls_snoc {l : List (Nm × Bool)} {k : Nat} {q : Nm × Bool} (h : l[k]? = some q) : l.take (k + 1) = l.take k ++ [q] := by
  rw [List.take_add_one, h]
  rfl
set_option maxRecDepth 100000 in
set_option maxHeartbeats 8000000 in
theorem refSorted (A : Option Addr) (n c : Nat) (ls : List (Nm × Bool)) (w : World) (h : NlsAt w A n ls) (hn : n ≤ 1000) (hq : ∀ q ∈ ls, q.1.length ≤ 1000) :
    Calls Tryz.prog 26 #[.slice A n c] w fun e w' => ∃ v, e = .returned (.tuple #[v, .bool (wishB validB ls)]) ∧ (wishB validB ls = true → OwnN w' w.heap.size tNL v (sortN ls)) ∧ Below w.heap.size w w' := by
  have H := Lib.hid h
  have HN := Lib.hid h.len
  have HQL := Lib.hid hq
  have hlenN : (Tryz.prog.info? tNL).map (·.size) = some 2 := by kernel_rfl
  obtain ⟨i0, hi0, hz0, hz1, hz2⟩ := info_parts infoN
  have HI := Lib.hid hi0
  have HZ0 := Lib.hid hz0
  have HZ1 := Lib.hid hz1
  have HZ2 := Lib.hid hz2
  clear h hq hi0 hz0 hz1 hz2
  go_enter Tryz.func26, Tryz.ntmps26
  go_wp2
  obtain ⟨w2, q2, e1, e2, hb2, hq2⟩ := boxes1 w tNL #[]
  rw [e1, e2]
  have HB2 := Lib.hid hb2
  have HO2 := Lib.hid (OwnN.empty (B := w.heap.size) (by omega) hq2)
  clear e1 e2 hb2 hq2
  go_loopw [4, 5] (fun ov iv wr => ∃ ix : Nat, ix ≤ n ∧ iv = .int .i64 ix ∧ OwnN wr w.heap.size tNL ov (sortN (ls.take ix)) ∧ Hid (names (ls.take ix)).Nodup ∧ Hid (((ls.take ix).all fun p => validB p.1) = true) ∧ Below w.heap.size w wr) (fun _ iv _ => n - (intOf iv).toNat)
  case atStart => exact ⟨0, Nat.zero_le _, rfl, by rw [show sortN (ls.take 0) = [] from by simp [sortN]]; exact HO2.out, (show (names (ls.take 0)).Nodup from by simp [names]), (show ((ls.take 0).all fun p => validB p.1) = true from by simp), HB2.out⟩
  case round =>
    obtain ⟨ix, hi, rfl, ho, hnd, hva, hb⟩ := hrel
    have HO := Lib.hid ho
    have HB := Lib.hid hb
    have hsz := hb.size
    clear ho hb
    by_cases hlt : ix < n
    · obtain ⟨b0, off0, q, rfl, hqi, y0, y1⟩ := (NlsAt.below H.out HB.out).at_ hlt
      have HQI := Lib.hid hqi
      have HRR := Lib.hid ((NlsAt.below H.out HB.out).row hqi)
      obtain ⟨S, hS⟩ : ∃ S, sortN (ls.take ix) = S := ⟨_, rfl⟩
      have HS := Lib.hid hS
      rw [hS] at HO
      have hS1000 : S.length ≤ 1000 := by
        have h1 := List.length_take_le ix ls
        have h2 : (sortN (ls.take ix)).length = (ls.take ix).length := (sortN_perm _).length_eq
        rw [← hS, h2]
        omega
      have HMEM := Lib.hid (show ∀ (x : Nm × Bool), x ∈ S → x ∈ ls.take ix from fun x hx => (sortN_perm (ls.take ix)).subset (by rw [hS]; exact hx))
      obtain ⟨A1, c1, rfl, hS1, hc1⟩ := HO.out.cap
      obtain ⟨m, hm⟩ : ∃ m, S.length = m := ⟨_, rfl⟩
      rw [hm] at hS1 hc1 hS1000 ⊢
      have HM := Lib.hid hm
      have HS1 := Lib.hid hS1
      have hi1 : (ix : Int) < (n : Int) := by omega
      have hi2 : (0 : Int) ≤ (ix : Int) := by omega
      have hq1000 := HQL.out q (List.mem_of_getElem? hqi)
      have HQ1 := Lib.hid hq1000
      clear hqi hS hm hS1
      obtain ⟨wo, hwo⟩ : ∃ wo, wr = wo := ⟨_, rfl⟩
      rw [hwo] at HB hsz HRR HS1 HO y0 y1 ⊢
      clear hwo wr
      have HY0 := Lib.hid (show ∀ w' : World, RowKit.Below wo.heap.size wo w' → w'.cell? ⟨b0, off0 + ix * 2, none⟩ = some (.string ⟨q.1.toArray⟩) from fun w' h' => (h'.cell (p := ⟨b0, off0 + ix * 2, none⟩) (World.block_lt_of_cell? wo _ y0)).trans y0)
      have HRW := Lib.hid (show ∀ w' : World, RowKit.Below wo.heap.size wo w' → ∀ (j : Nat) (u : Value), (na q)[j]? = some u → w'.cell? ((⟨b0, off0 + ix * 2, none⟩ : Addr).add j) = some u from fun w' h' j u hj => (h'.cell (p := (⟨b0, off0 + ix * 2, none⟩ : Addr).add j) (World.block_lt_of_cell? wo _ (HRR.out j u hj))).trans (HRR.out j u hj))
      clear y0 y1 HRR
      go_wp2
      go_loopw [6] (fun kv wx => ∃ k : Nat, k ≤ m ∧ kv = .int .i64 k ∧ Hid (∀ (j : Nat) (x : Nm × Bool), k ≤ j → S[j]? = some x → q.1 < x.1) ∧ RowKit.Below wo.heap.size wo wx) (fun kv _ => (intOf kv).toNat)
      case atStart => exact ⟨m, Nat.le_refl _, rfl, fun j x hj hx => absurd (List.getElem?_eq_some_iff.1 hx).1 (by rw [HM.out]; omega), Below.refl _ _⟩
      case round =>
        obtain ⟨k, hk, rfl, haf, hbx⟩ := hrel
        have HBX := Lib.hid hbx
        have hszx := hbx.size
        have yq := HY0.out _ hbx
        clear hbx
        cases k with
        | zero =>
          have HNA := Lib.hid (show NmAt S q.1 0 from ⟨haf.out, .inl rfl⟩)
          go_upto_region 6 with (fail)
          go_quiet (fail)
          have HB6 := Lib.hid (HBX.out.trans ((below_drewN (Below.refl wr.heap.size wr) nq).mono hszx))
          have hsz6 := HB6.out.size
          have yq6 := HY0.out _ HB6.out
          generalize wr.drewN nq = w6 at HB6 hsz6 yq6 ⊢
          clear yq
          cases hv : validB q.1 with
          | false =>
            have HV := Lib.hid hv
            have HBAD := Lib.hid (show wishB validB ls = false from wish_inv (List.mem_of_getElem? HQI.out) hv)
            clear hv
            go_wp2_with (go_at_call 43; refine (refValid q.1 _ HQ1.out).mono ?_; rintro e w7 ⟨rfl, hb7⟩; rw [HV.out]; have HB7 := Lib.hid (HB6.out.trans (hb7.mono hsz6)); clear hb7)
            go_ret2
            rw [HBAD.out]; exact ⟨_, rfl, fun h => (by cases h), HB.out.trans (HB7.out.mono hsz)⟩
          | true =>
            have HV := Lib.hid hv
            clear hv
            go_upto_region 12 with (go_at_call 43; refine (refValid q.1 _ HQ1.out).mono ?_; rintro e w7 ⟨rfl, hb7⟩; rw [HV.out]; have HB7 := Lib.hid (HB6.out.trans (hb7.mono hsz6)); clear hb7)
            have HSL := Lib.hid (show CellsAt w7 A1 m 2 (ncs S) from HS1.out.below HB7.out)
            have HONE := Lib.hid (ncs_one S)
            have HXONE := Lib.hid (nc_one q)
            clear yq6
            have HP := Lib.hid (show CellsAt w7 A1 0 2 ((ncs S).take (0 * 2)) from HSL.out.pre (by omega))
            have HDR := Lib.hid (HSL.out.cut (k := 0) (c := c1) (by omega) (by omega))
            have HND := Lib.hid (HDR.out.none_ (by omega))
            refine wp_region_kill 8 14 (by kernel_rfl) (by kernel_rfl) (fun i => match i with | 0 => some 10 | 4 => some 10 | 9 => some 10 | _ => none) (RK w7.heap.size 10) (fun w1 => Below w7.heap.size w7 w1)
              (fun i v w1 => match i with
                | 0 => EmptyAt w1 w7.heap.size tNL v
                | 1 => v = .slice A1 m c1
                | 2 => v = .int .i64 0
                | 3 => v = .slice A1 0 c1
                | 4 => RowAt w1 w7.heap.size tNL 2 0 ((ncs S).take (0 * 2)) v
                | 5 => v = .slice (some ⟨b0, off0, none⟩) n c
                | 6 => v = .int .i64 ix
                | 7 => v = .pointer (some ⟨b0, off0 + ix * 2, none⟩)
                | 8 => v = .agg (na q)
                | 9 => OneAt w1 tNL (na q) v
                | 10 => RowAt w1 w7.heap.size tNL 2 (0 + 1) ((ncs S).take (0 * 2) ++ (nc q)) v
                | 11 => v = .slice A1 m c1
                | 12 => v = .int .i64 0
                | 13 => v = .slice (if c1 = 0 then A1 else A1.map (·.add (0 * 2))) (m - 0) (c1 - 0)
                | _ => True) (fun _ _ _ h1 h2 => RK.keep h1 h2) ?_ ((Below.refl _ _).drew) ?_ ?_
            · intro kk ii vv w1 w2 hik hk hf hR
              match ii, hik, hk, hf with
              | 0, _, hk, hf => exact EmptyAt.below hf (RK.at_ hR (fun e => hk (by subst e; rfl)))
              | 1, _, _, hf => exact hf
              | 2, _, _, hf => exact hf
              | 3, _, _, hf => exact hf
              | 4, _, hk, hf => exact RowAt.below hf (RK.at_ hR (fun e => hk (by subst e; rfl)))
              | 5, _, _, hf => exact hf
              | 6, _, _, hf => exact hf
              | 7, _, _, hf => exact hf
              | 8, _, _, hf => exact hf
              | 9, _, hk, hf => exact OneAt.below hf (RK.at_ hR (fun e => hk (by subst e; rfl)))
              | 10, hik, _, hf => exact RowAt.below hf (RK.at_ hR (Ne.symm hik))
              | 11, _, _, hf => exact hf
              | 12, _, _, hf => exact hf
              | 13, _, _, hf => exact hf
              | n + 14, _, _, _ => trivial
            · refine allOps_cons ?_ (allOps_cons ?_ (allOps_cons ?_ (allOps_cons ?_ (allOps_cons ?_ (allOps_cons ?_ (allOps_cons ?_ (allOps_cons ?_ (allOps_cons ?_ (allOps_cons ?_ (allOps_cons ?_ (allOps_cons ?_ (allOps_cons ?_ (allOps_cons ?_ allOps_nil)))))))))))))
              · intro u w1 hC hd K hK
                simp only [List.take_succ_cons, List.take_zero, putAll, Act.put, List.setIfInBounds_toArray, List.set_cons_succ, List.set_cons_zero, Nat.zero_add, Nat.reduceAdd] at hK ⊢
                go_simp
                exact hK _ _ (RK.below (below_alloc (Below.refl _ _) _) (by decide)) (EmptyAt.new _ _ hC.size)
              · intro u w1 hC hd K hK
                simp only [List.take_succ_cons, List.take_zero, putAll, Act.put, List.setIfInBounds_toArray, List.set_cons_succ, List.set_cons_zero, Nat.zero_add, Nat.reduceAdd] at hK ⊢
                go_simp
                exact hK _ _ (RK.same (by decide)) rfl
              · intro u w1 hC hd K hK
                simp only [List.take_succ_cons, List.take_zero, putAll, Act.put, List.setIfInBounds_toArray, List.set_cons_succ, List.set_cons_zero, Nat.zero_add, Nat.reduceAdd] at hK ⊢
                go_simp
                exact hK _ _ (RK.same (by decide)) rfl
              · intro u w1 hC hd K hK
                have h1 : u 1 = .slice A1 m c1 := hd 1 rfl rfl
                have h2 : u 2 = .int .i64 0 := hd 2 rfl rfl
                simp only [List.take_succ_cons, List.take_zero, putAll, Act.put, List.setIfInBounds_toArray, List.set_cons_succ, List.set_cons_zero, Nat.zero_add, Nat.reduceAdd, h1, h2] at hK ⊢
                rw [if_pos (show Region.wanted _ _ = true from rfl)]
                exact wp_slice_to 30 (.tmp 54) (.tmp 55) rfl Tryz.underlying30 2 (fun _ => by kernel_rfl) A1 m c1 0 rfl rfl (by omega) (hK _ _ (RK.same (by decide)) rfl)
              · intro u w1 hC hd K hK
                have h3 : u 3 = .slice A1 0 c1 := hd 3 rfl rfl
                obtain ⟨g0, hg0, hg1, hg2⟩ := hd 0 rfl rfl
                simp only [List.take_succ_cons, List.take_zero, putAll, Act.put, List.setIfInBounds_toArray, List.set_cons_succ, List.set_cons_zero, Nat.zero_add, Nat.reduceAdd, h3] at hK ⊢
                rw [if_pos (show Region.wanted _ _ = true from rfl)]
                refine wp_append_empty w1 (.tmp 53) (.tmp 56) 30 rfl tNL i0 _ 2 24 Tryz.underlying30 HI.out HZ0.out HZ1.out HZ2.out rfl (by omega) g0 w7.heap.size hg0 hg1 hg2 A1 0 c1 _ rfl (HP.out.below hC) (fun u hu => HONE.out u (List.mem_of_mem_take hu)) (by unfold maxLen; omega) (by omega) ?_
                intro v' w2 hown2 hb2
                exact hK v' w2 (RK.below hb2 (by decide)) hown2
              · intro u w1 hC hd K hK
                simp only [List.take_succ_cons, List.take_zero, putAll, Act.put, List.setIfInBounds_toArray, List.set_cons_succ, List.set_cons_zero, Nat.zero_add, Nat.reduceAdd] at hK ⊢
                go_simp
                exact hK _ _ (RK.same (by decide)) rfl
              · intro u w1 hC hd K hK
                simp only [List.take_succ_cons, List.take_zero, putAll, Act.put, List.setIfInBounds_toArray, List.set_cons_succ, List.set_cons_zero, Nat.zero_add, Nat.reduceAdd] at hK ⊢
                go_simp
                exact hK _ _ (RK.same (by decide)) rfl
              · intro u w1 hC hd K hK
                have h5 : u 5 = .slice (some ⟨b0, off0, none⟩) n c := hd 5 rfl rfl
                have h6 : u 6 = .int .i64 ix := hd 6 rfl rfl
                simp only [List.take_succ_cons, List.take_zero, putAll, Act.put, List.setIfInBounds_toArray, List.set_cons_succ, List.set_cons_zero, Nat.zero_add, Nat.reduceAdd, h5, h6] at hK ⊢
                go_simp
                exact hK _ _ (RK.same (by decide)) rfl
              · intro u w1 hC hd K hK
                have h7 : u 7 = .pointer (some ⟨b0, off0 + ix * 2, none⟩) := hd 7 rfl rfl
                simp only [List.take_succ_cons, List.take_zero, putAll, Act.put, List.setIfInBounds_toArray, List.set_cons_succ, List.set_cons_zero, Nat.zero_add, Nat.reduceAdd, h7] at hK ⊢
                rw [if_pos (show Region.wanted _ _ = true from rfl)]
                exact wp_load_cells tNL (.tmp 60) rfl ⟨b0, off0 + ix * 2, none⟩ rfl (na q) _ (HRW.out _ (HB7.out.trans (hC.mono HB7.out.size))) Tryz.underlying51 rfl hlenN (hK _ _ (RK.same (by decide)) rfl)
              · intro u w1 hC hd K hK
                have h8 : u 8 = .agg (na q) := hd 8 rfl rfl
                simp only [List.take_succ_cons, List.take_zero, putAll, Act.put, List.setIfInBounds_toArray, List.set_cons_succ, List.set_cons_zero, Nat.zero_add, Nat.reduceAdd, h8] at hK ⊢
                go_simp
                exact hK _ _ (RK.below (below_alloc (Below.refl _ _) _) (by decide)) (OneAt.new _ _ _)
              · intro u w1 hC hd K hK
                have h4 : RowAt w1 w7.heap.size tNL 2 0 ((ncs S).take (0 * 2)) (u 4) := hd 4 rfl rfl
                obtain ⟨g1, hg0, hg1⟩ := hd 9 rfl rfl
                simp only [List.take_succ_cons, List.take_zero, putAll, Act.put, List.setIfInBounds_toArray, List.set_cons_succ, List.set_cons_zero, Nat.zero_add, Nat.reduceAdd] at hK ⊢
                rw [if_pos (show Region.wanted _ _ = true from rfl)]
                refine wp_append_own (.tmp 57) (.tmp 62) 30 rfl w7.heap.size tNL i0 _ 2 24 Tryz.underlying30 HI.out HZ0.out HZ1.out HZ2.out rfl (by omega) (u 4) 0 _ rfl h4 (some ⟨g1, 0, none⟩) 1 1 (nc q) hg0 (fun e => by cases e) (one_cells' hg1 rfl rfl) HXONE.out (by unfold maxLen; omega) (by omega) hC.size ?_
                intro v' w2 hr hg
                exact hK v' w2 (RK.grown hg (row_base h4)) hr
              · intro u w1 hC hd K hK
                simp only [List.take_succ_cons, List.take_zero, putAll, Act.put, List.setIfInBounds_toArray, List.set_cons_succ, List.set_cons_zero, Nat.zero_add, Nat.reduceAdd] at hK ⊢
                go_simp
                exact hK _ _ (RK.same (by decide)) rfl
              · intro u w1 hC hd K hK
                simp only [List.take_succ_cons, List.take_zero, putAll, Act.put, List.setIfInBounds_toArray, List.set_cons_succ, List.set_cons_zero, Nat.zero_add, Nat.reduceAdd] at hK ⊢
                go_simp
                exact hK _ _ (RK.same (by decide)) rfl
              · intro u w1 hC hd K hK
                have h11 : u 11 = .slice A1 m c1 := hd 11 rfl rfl
                have h12 : u 12 = .int .i64 0 := hd 12 rfl rfl
                simp only [List.take_succ_cons, List.take_zero, putAll, Act.put, List.setIfInBounds_toArray, List.set_cons_succ, List.set_cons_zero, Nat.zero_add, Nat.reduceAdd, h11, h12] at hK ⊢
                rw [if_pos (show Region.wanted _ _ = true from rfl)]
                exact wp_slice_from 30 (.tmp 64) (.tmp 65) rfl Tryz.underlying30 2 (fun _ => by kernel_rfl) A1 m c1 0 rfl rfl (by omega) (hK _ _ (RK.same (by decide)) rfl)
            · intro u wt hC hf
              have hfK : RowAt wt w7.heap.size tNL 2 (0 + 1) ((ncs S).take (0 * 2) ++ (nc q)) (u 10) := hf 10 (by decide) rfl
              have hfL : u 13 = .slice (if c1 = 0 then A1 else A1.map (·.add (0 * 2))) (m - 0) (c1 - 0) := hf 13 (by decide) rfl
              simp only [List.take_succ_cons, List.take_zero, List.drop_succ_cons, List.drop_zero, putAll, Act.put, List.setIfInBounds_toArray, List.set_cons_succ, List.set_cons_zero, Nat.zero_add, Nat.reduceAdd, hfL]
              refine wpList_append_own2 rfl (.tmp 63) (.tmp 66) 30 rfl w7.heap.size tNL i0 _ 2 24 Tryz.underlying30 HI.out HZ0.out HZ1.out HZ2.out rfl (by omega) (u 10) (0 + 1) _ rfl hfK _ (m - 0) (c1 - 0) _ rfl HND.out (HDR.out.below hC) (fun u hu => HONE.out u (List.mem_of_mem_drop hu)) (by unfold maxLen; omega) (by omega) hC.size ?_
              intro v9 w9 ho9 hg9
              generalize (if c1 = 0 then A1 else A1.map (·.add (0 * 2))) = A9
              have HO9 := Lib.hid ho9
              have HB9 := Lib.hid (show Below w7.heap.size w7 w9 from RK.keep (i := 0) hC (RK.grown hg9 (row_base hfK)))
              clear ho9 hg9 hfK hfL hf hC
              have hrow : OwnN w9 w.heap.size tNL v9 (S.take (0) ++ q :: S.drop (0)) := by
                have h1 := HO9.out
                unfold OwnN
                rw [ins_len HM.out (by omega) q, ncs_append, ncs_cons]
                have := World.ownsRow.mono h1 (Nat.le_trans hsz HB7.out.size)
                rw [takeN_mul, dropN_mul] at this
                simpa using this
              have hins := ins_sortN hnd.out (q := q) (k := 0) (by rw [HS.out]; exact HNA.out)
              rw [HS.out, ← ls_snoc HQI.out] at hins
              rw [hins.2] at hrow
              have HR := Lib.hid hrow
              have HND := Lib.hid hins.1
              have HBW := Lib.hid (HB.out.trans ((HB7.out.trans (HB9.out.mono HB7.out.size)).mono hsz))
              clear hrow hins HO9
              go_wp2
              go_roundw
              case rel => exact ⟨ix + 1, hlt, by simp, HR.out, HND.out, by rw [all_snoc HQI.out, hva.out, HV.out]; rfl, HBW.out⟩
              case measure => dsimp only [intOf]; omega
        | succ k' =>
          obtain ⟨b1, off1, x, hA1, hx, x0, -⟩ := (HS1.out.below HBX.out).at_ (show k' < m from by omega)
          have HX := Lib.hid hx
          have HXM := Lib.hid (HMEM.out x (List.mem_of_getElem? hx))
          have hk1 : (0 : Int) < (k' : Int) + 1 := by omega
          have hk2 : (k' : Int) < (m : Int) := by omega
          have hk3 : (0 : Int) ≤ (k' : Int) := by omega
          clear hx
          by_cases hless : x.1 < q.1
          · have hl1 : Op.bytesLess x.1 q.1 = true := by rw [bytesLess_eq]; exact decide_eq_true hless
            have HNA := Lib.hid (show NmAt S q.1 (k' + 1) from ⟨haf.out, .inr ⟨x, HX.out, hless⟩⟩)
            clear hless
            subst hA1
            go_upto_region 6 with (fail)
            go_quiet (fail)
            have HB6 := Lib.hid (HBX.out.trans ((below_drewN (Below.refl wr.heap.size wr) nq).mono hszx))
            have hsz6 := HB6.out.size
            have yq6 := HY0.out _ HB6.out
            generalize wr.drewN nq = w6 at HB6 hsz6 yq6 ⊢
            clear yq x0 hl1
            cases hv : validB q.1 with
            | false =>
              have HV := Lib.hid hv
              have HBAD := Lib.hid (show wishB validB ls = false from wish_inv (List.mem_of_getElem? HQI.out) hv)
              clear hv
              go_wp2_with (go_at_call 43; refine (refValid q.1 _ HQ1.out).mono ?_; rintro e w7 ⟨rfl, hb7⟩; rw [HV.out]; have HB7 := Lib.hid (HB6.out.trans (hb7.mono hsz6)); clear hb7)
              go_ret2
              rw [HBAD.out]; exact ⟨_, rfl, fun h => (by cases h), HB.out.trans (HB7.out.mono hsz)⟩
            | true =>
              have HV := Lib.hid hv
              clear hv
              go_upto_region 12 with (go_at_call 43; refine (refValid q.1 _ HQ1.out).mono ?_; rintro e w7 ⟨rfl, hb7⟩; rw [HV.out]; have HB7 := Lib.hid (HB6.out.trans (hb7.mono hsz6)); clear hb7)
              have HSL := Lib.hid (show CellsAt w7 (some ⟨b1, off1, none⟩ : Option Addr) m 2 (ncs S) from HS1.out.below HB7.out)
              have HONE := Lib.hid (ncs_one S)
              have HXONE := Lib.hid (nc_one q)
              clear yq6
              have HP := Lib.hid (show CellsAt w7 (some ⟨b1, off1, none⟩ : Option Addr) (k' + 1) 2 ((ncs S).take ((k' + 1) * 2)) from HSL.out.pre (by omega))
              have HDR := Lib.hid (HSL.out.cut (k := (k' + 1)) (c := c1) (by omega) (by omega))
              have HND := Lib.hid (HDR.out.none_ (by omega))
              refine wp_region_kill 8 14 (by kernel_rfl) (by kernel_rfl) (fun i => match i with | 0 => some 10 | 4 => some 10 | 9 => some 10 | _ => none) (RK w7.heap.size 10) (fun w1 => Below w7.heap.size w7 w1)
                (fun i v w1 => match i with
                  | 0 => EmptyAt w1 w7.heap.size tNL v
                  | 1 => v = .slice (some ⟨b1, off1, none⟩ : Option Addr) m c1
                  | 2 => v = .int .i64 (k' + 1)
                  | 3 => v = .slice (some ⟨b1, off1, none⟩ : Option Addr) (k' + 1) c1
                  | 4 => RowAt w1 w7.heap.size tNL 2 (k' + 1) ((ncs S).take ((k' + 1) * 2)) v
                  | 5 => v = .slice (some ⟨b0, off0, none⟩) n c
                  | 6 => v = .int .i64 ix
                  | 7 => v = .pointer (some ⟨b0, off0 + ix * 2, none⟩)
                  | 8 => v = .agg (na q)
                  | 9 => OneAt w1 tNL (na q) v
                  | 10 => RowAt w1 w7.heap.size tNL 2 ((k' + 1) + 1) ((ncs S).take ((k' + 1) * 2) ++ (nc q)) v
                  | 11 => v = .slice (some ⟨b1, off1, none⟩ : Option Addr) m c1
                  | 12 => v = .int .i64 (k' + 1)
                  | 13 => v = .slice (if c1 = (k' + 1) then (some ⟨b1, off1, none⟩ : Option Addr) else (some ⟨b1, off1, none⟩ : Option Addr).map (·.add ((k' + 1) * 2))) (m - (k' + 1)) (c1 - (k' + 1))
                  | _ => True) (fun _ _ _ h1 h2 => RK.keep h1 h2) ?_ ((Below.refl _ _).drew) ?_ ?_
              · intro kk ii vv w1 w2 hik hk hf hR
                match ii, hik, hk, hf with
                | 0, _, hk, hf => exact EmptyAt.below hf (RK.at_ hR (fun e => hk (by subst e; rfl)))
                | 1, _, _, hf => exact hf
                | 2, _, _, hf => exact hf
                | 3, _, _, hf => exact hf
                | 4, _, hk, hf => exact RowAt.below hf (RK.at_ hR (fun e => hk (by subst e; rfl)))
                | 5, _, _, hf => exact hf
                | 6, _, _, hf => exact hf
                | 7, _, _, hf => exact hf
                | 8, _, _, hf => exact hf
                | 9, _, hk, hf => exact OneAt.below hf (RK.at_ hR (fun e => hk (by subst e; rfl)))
                | 10, hik, _, hf => exact RowAt.below hf (RK.at_ hR (Ne.symm hik))
                | 11, _, _, hf => exact hf
                | 12, _, _, hf => exact hf
                | 13, _, _, hf => exact hf
                | n + 14, _, _, _ => trivial
              · refine allOps_cons ?_ (allOps_cons ?_ (allOps_cons ?_ (allOps_cons ?_ (allOps_cons ?_ (allOps_cons ?_ (allOps_cons ?_ (allOps_cons ?_ (allOps_cons ?_ (allOps_cons ?_ (allOps_cons ?_ (allOps_cons ?_ (allOps_cons ?_ (allOps_cons ?_ allOps_nil)))))))))))))
                · intro u w1 hC hd K hK
                  simp only [List.take_succ_cons, List.take_zero, putAll, Act.put, List.setIfInBounds_toArray, List.set_cons_succ, List.set_cons_zero, Nat.zero_add, Nat.reduceAdd] at hK ⊢
                  go_simp
                  exact hK _ _ (RK.below (below_alloc (Below.refl _ _) _) (by decide)) (EmptyAt.new _ _ hC.size)
                · intro u w1 hC hd K hK
                  simp only [List.take_succ_cons, List.take_zero, putAll, Act.put, List.setIfInBounds_toArray, List.set_cons_succ, List.set_cons_zero, Nat.zero_add, Nat.reduceAdd] at hK ⊢
                  go_simp
                  exact hK _ _ (RK.same (by decide)) rfl
                · intro u w1 hC hd K hK
                  simp only [List.take_succ_cons, List.take_zero, putAll, Act.put, List.setIfInBounds_toArray, List.set_cons_succ, List.set_cons_zero, Nat.zero_add, Nat.reduceAdd] at hK ⊢
                  go_simp
                  exact hK _ _ (RK.same (by decide)) rfl
                · intro u w1 hC hd K hK
                  have h1 : u 1 = .slice (some ⟨b1, off1, none⟩ : Option Addr) m c1 := hd 1 rfl rfl
                  have h2 : u 2 = .int .i64 (k' + 1) := hd 2 rfl rfl
                  simp only [List.take_succ_cons, List.take_zero, putAll, Act.put, List.setIfInBounds_toArray, List.set_cons_succ, List.set_cons_zero, Nat.zero_add, Nat.reduceAdd, h1, h2] at hK ⊢
                  rw [if_pos (show Region.wanted _ _ = true from rfl)]
                  exact wp_slice_to 30 (.tmp 54) (.tmp 55) rfl Tryz.underlying30 2 (fun _ => by kernel_rfl) (some ⟨b1, off1, none⟩ : Option Addr) m c1 (k' + 1) rfl rfl (by omega) (hK _ _ (RK.same (by decide)) rfl)
                · intro u w1 hC hd K hK
                  have h3 : u 3 = .slice (some ⟨b1, off1, none⟩ : Option Addr) (k' + 1) c1 := hd 3 rfl rfl
                  obtain ⟨g0, hg0, hg1, hg2⟩ := hd 0 rfl rfl
                  simp only [List.take_succ_cons, List.take_zero, putAll, Act.put, List.setIfInBounds_toArray, List.set_cons_succ, List.set_cons_zero, Nat.zero_add, Nat.reduceAdd, h3] at hK ⊢
                  rw [if_pos (show Region.wanted _ _ = true from rfl)]
                  refine wp_append_empty w1 (.tmp 53) (.tmp 56) 30 rfl tNL i0 _ 2 24 Tryz.underlying30 HI.out HZ0.out HZ1.out HZ2.out rfl (by omega) g0 w7.heap.size hg0 hg1 hg2 (some ⟨b1, off1, none⟩ : Option Addr) (k' + 1) c1 _ rfl (HP.out.below hC) (fun u hu => HONE.out u (List.mem_of_mem_take hu)) (by unfold maxLen; omega) (by omega) ?_
                  intro v' w2 hown2 hb2
                  exact hK v' w2 (RK.below hb2 (by decide)) hown2
                · intro u w1 hC hd K hK
                  simp only [List.take_succ_cons, List.take_zero, putAll, Act.put, List.setIfInBounds_toArray, List.set_cons_succ, List.set_cons_zero, Nat.zero_add, Nat.reduceAdd] at hK ⊢
                  go_simp
                  exact hK _ _ (RK.same (by decide)) rfl
                · intro u w1 hC hd K hK
                  simp only [List.take_succ_cons, List.take_zero, putAll, Act.put, List.setIfInBounds_toArray, List.set_cons_succ, List.set_cons_zero, Nat.zero_add, Nat.reduceAdd] at hK ⊢
                  go_simp
                  exact hK _ _ (RK.same (by decide)) rfl
                · intro u w1 hC hd K hK
                  have h5 : u 5 = .slice (some ⟨b0, off0, none⟩) n c := hd 5 rfl rfl
                  have h6 : u 6 = .int .i64 ix := hd 6 rfl rfl
                  simp only [List.take_succ_cons, List.take_zero, putAll, Act.put, List.setIfInBounds_toArray, List.set_cons_succ, List.set_cons_zero, Nat.zero_add, Nat.reduceAdd, h5, h6] at hK ⊢
                  go_simp
                  exact hK _ _ (RK.same (by decide)) rfl
                · intro u w1 hC hd K hK
                  have h7 : u 7 = .pointer (some ⟨b0, off0 + ix * 2, none⟩) := hd 7 rfl rfl
                  simp only [List.take_succ_cons, List.take_zero, putAll, Act.put, List.setIfInBounds_toArray, List.set_cons_succ, List.set_cons_zero, Nat.zero_add, Nat.reduceAdd, h7] at hK ⊢
                  rw [if_pos (show Region.wanted _ _ = true from rfl)]
                  exact wp_load_cells tNL (.tmp 60) rfl ⟨b0, off0 + ix * 2, none⟩ rfl (na q) _ (HRW.out _ (HB7.out.trans (hC.mono HB7.out.size))) Tryz.underlying51 rfl hlenN (hK _ _ (RK.same (by decide)) rfl)
                · intro u w1 hC hd K hK
                  have h8 : u 8 = .agg (na q) := hd 8 rfl rfl
                  simp only [List.take_succ_cons, List.take_zero, putAll, Act.put, List.setIfInBounds_toArray, List.set_cons_succ, List.set_cons_zero, Nat.zero_add, Nat.reduceAdd, h8] at hK ⊢
                  go_simp
                  exact hK _ _ (RK.below (below_alloc (Below.refl _ _) _) (by decide)) (OneAt.new _ _ _)
                · intro u w1 hC hd K hK
                  have h4 : RowAt w1 w7.heap.size tNL 2 (k' + 1) ((ncs S).take ((k' + 1) * 2)) (u 4) := hd 4 rfl rfl
                  obtain ⟨g1, hg0, hg1⟩ := hd 9 rfl rfl
                  simp only [List.take_succ_cons, List.take_zero, putAll, Act.put, List.setIfInBounds_toArray, List.set_cons_succ, List.set_cons_zero, Nat.zero_add, Nat.reduceAdd] at hK ⊢
                  rw [if_pos (show Region.wanted _ _ = true from rfl)]
                  refine wp_append_own (.tmp 57) (.tmp 62) 30 rfl w7.heap.size tNL i0 _ 2 24 Tryz.underlying30 HI.out HZ0.out HZ1.out HZ2.out rfl (by omega) (u 4) (k' + 1) _ rfl h4 (some ⟨g1, 0, none⟩) 1 1 (nc q) hg0 (fun e => by cases e) (one_cells' hg1 rfl rfl) HXONE.out (by unfold maxLen; omega) (by omega) hC.size ?_
                  intro v' w2 hr hg
                  exact hK v' w2 (RK.grown hg (row_base h4)) hr
                · intro u w1 hC hd K hK
                  simp only [List.take_succ_cons, List.take_zero, putAll, Act.put, List.setIfInBounds_toArray, List.set_cons_succ, List.set_cons_zero, Nat.zero_add, Nat.reduceAdd] at hK ⊢
                  go_simp
                  exact hK _ _ (RK.same (by decide)) rfl
                · intro u w1 hC hd K hK
                  simp only [List.take_succ_cons, List.take_zero, putAll, Act.put, List.setIfInBounds_toArray, List.set_cons_succ, List.set_cons_zero, Nat.zero_add, Nat.reduceAdd] at hK ⊢
                  go_simp
                  exact hK _ _ (RK.same (by decide)) rfl
                · intro u w1 hC hd K hK
                  have h11 : u 11 = .slice (some ⟨b1, off1, none⟩ : Option Addr) m c1 := hd 11 rfl rfl
                  have h12 : u 12 = .int .i64 (k' + 1) := hd 12 rfl rfl
                  simp only [List.take_succ_cons, List.take_zero, putAll, Act.put, List.setIfInBounds_toArray, List.set_cons_succ, List.set_cons_zero, Nat.zero_add, Nat.reduceAdd, h11, h12] at hK ⊢
                  rw [if_pos (show Region.wanted _ _ = true from rfl)]
                  exact wp_slice_from 30 (.tmp 64) (.tmp 65) rfl Tryz.underlying30 2 (fun _ => by kernel_rfl) (some ⟨b1, off1, none⟩ : Option Addr) m c1 (k' + 1) rfl rfl (by omega) (hK _ _ (RK.same (by decide)) rfl)
              · intro u wt hC hf
                have hfK : RowAt wt w7.heap.size tNL 2 ((k' + 1) + 1) ((ncs S).take ((k' + 1) * 2) ++ (nc q)) (u 10) := hf 10 (by decide) rfl
                have hfL : u 13 = .slice (if c1 = (k' + 1) then (some ⟨b1, off1, none⟩ : Option Addr) else (some ⟨b1, off1, none⟩ : Option Addr).map (·.add ((k' + 1) * 2))) (m - (k' + 1)) (c1 - (k' + 1)) := hf 13 (by decide) rfl
                simp only [List.take_succ_cons, List.take_zero, List.drop_succ_cons, List.drop_zero, putAll, Act.put, List.setIfInBounds_toArray, List.set_cons_succ, List.set_cons_zero, Nat.zero_add, Nat.reduceAdd, hfL]
                refine wpList_append_own2 rfl (.tmp 63) (.tmp 66) 30 rfl w7.heap.size tNL i0 _ 2 24 Tryz.underlying30 HI.out HZ0.out HZ1.out HZ2.out rfl (by omega) (u 10) ((k' + 1) + 1) _ rfl hfK _ (m - (k' + 1)) (c1 - (k' + 1)) _ rfl HND.out (HDR.out.below hC) (fun u hu => HONE.out u (List.mem_of_mem_drop hu)) (by unfold maxLen; omega) (by omega) hC.size ?_
                intro v9 w9 ho9 hg9
                generalize (if c1 = (k' + 1) then (some ⟨b1, off1, none⟩ : Option Addr) else (some ⟨b1, off1, none⟩ : Option Addr).map (·.add ((k' + 1) * 2))) = A9
                have HO9 := Lib.hid ho9
                have HB9 := Lib.hid (show Below w7.heap.size w7 w9 from RK.keep (i := 0) hC (RK.grown hg9 (row_base hfK)))
                clear ho9 hg9 hfK hfL hf hC
                have hrow : OwnN w9 w.heap.size tNL v9 (S.take ((k' + 1)) ++ q :: S.drop ((k' + 1))) := by
                  have h1 := HO9.out
                  unfold OwnN
                  rw [ins_len HM.out (by omega) q, ncs_append, ncs_cons]
                  have := World.ownsRow.mono h1 (Nat.le_trans hsz HB7.out.size)
                  rw [takeN_mul, dropN_mul] at this
                  simpa using this
                have hins := ins_sortN hnd.out (q := q) (k := (k' + 1)) (by rw [HS.out]; exact HNA.out)
                rw [HS.out, ← ls_snoc HQI.out] at hins
                rw [hins.2] at hrow
                have HR := Lib.hid hrow
                have HND := Lib.hid hins.1
                have HBW := Lib.hid (HB.out.trans ((HB7.out.trans (HB9.out.mono HB7.out.size)).mono hsz))
                clear hrow hins HO9
                go_wp2
                go_roundw
                case rel => exact ⟨ix + 1, hlt, by simp, HR.out, HND.out, by rw [all_snoc HQI.out, hva.out, HV.out]; rfl, HBW.out⟩
                case measure => dsimp only [intOf]; omega
          · have hl1 : Op.bytesLess x.1 q.1 = false := by rw [bytesLess_eq]; exact decide_eq_false hless
            subst hA1
            by_cases heq : x.1 = q.1
            · have HDUP := Lib.hid (show wishB validB ls = false from wish_dup HQI.out (List.mem_map.2 ⟨x, HXM.out, heq⟩))
              clear hless
              obtain ⟨xn, xb⟩ := x
              simp only at heq x0 hl1
              subst heq
              go_upto_region 6 with (fail)
              go_quiet (fail)
              have HB6 := Lib.hid (HBX.out.trans ((below_drewN (Below.refl wr.heap.size wr) nq).mono hszx))
              have hsz6 := HB6.out.size
              have yq6 := HY0.out _ HB6.out
              have x06 : (wr.drewN nq).cell? ⟨b1, off1 + k' * 2, none⟩ = some (.string ⟨q.1.toArray⟩) := x0
              generalize wr.drewN nq = w6 at HB6 hsz6 yq6 x06 ⊢
              clear yq x0 hl1
              go_upto_region 7 with (fail)
              go_quiet (fail)
              have HB7 := Lib.hid (HB6.out.trans ((below_drewN (Below.refl w6.heap.size w6) nq).mono hsz6))
              generalize w6.drewN nq = w7 at HB7 ⊢
              clear yq6 x06
              go_wp2
              go_ret2
              rw [HDUP.out]; exact ⟨_, rfl, fun h => (by cases h), HB.out.trans (HB7.out.mono hsz)⟩
            · have hlt2 : q.1 < x.1 := nm_lt hless (Ne.symm heq)
              have hd1 : (x.1 == q.1) = false := beq_eq_false_iff_ne.2 heq
              have hd2 : ((x.1 : List UInt8) == (q.1 : List UInt8)) = false := beq_eq_false_iff_ne.2 heq
              have HLT2 := Lib.hid hlt2
              clear hless heq hlt2
              go_upto_region 6 with (fail)
              go_quiet (fail)
              have HB6 := Lib.hid (HBX.out.trans ((below_drewN (Below.refl wr.heap.size wr) nq).mono hszx))
              have hsz6 := HB6.out.size
              have yq6 := HY0.out _ HB6.out
              have x06 : (wr.drewN nq).cell? ⟨b1, off1 + k' * 2, none⟩ = some (.string ⟨x.1.toArray⟩) := x0
              generalize wr.drewN nq = w6 at HB6 hsz6 yq6 x06 ⊢
              clear yq x0 hl1
              go_upto_region 7 with (fail)
              go_quiet (fail)
              have HB7 := Lib.hid (HB6.out.trans ((below_drewN (Below.refl w6.heap.size w6) nq).mono hsz6))
              generalize w6.drewN nq = w7 at HB7 ⊢
              clear yq6 x06
              go_wp2
              refine ⟨⟨k', by omega, by simp, fun j z hj hz => ?_, HB7.out⟩, by dsimp only [intOf]; omega⟩
              by_cases e : j = k'
              · subst e
                rw [HX.out] at hz
                cases hz
                exact HLT2.out
              · exact haf.out j z (by omega) hz
    · have hin : ix = n := by omega
      have hi1 : ¬ (ix : Int) < (n : Int) := by omega
      have htk : ls.take ix = ls := by rw [hin, ← HN.out, List.take_length]
      rw [htk] at HO
      have HWB := Lib.hid (show wishB validB ls = decide (n ≤ 256) from by
        have h1 := hnd.out
        have h2 := hva.out
        rw [htk] at h1 h2
        unfold wishB
        rw [HN.out, h2, decide_eq_true h1]
        simp)
      clear htk
      by_cases h256 : n ≤ 256
      · have h256' : (n : Int) ≤ 256 := by omega
        have HW2 := Lib.hid (show wishB validB ls = true from by rw [HWB.out]; exact decide_eq_true h256)
        go_wp2
        go_ret2
        rw [HW2.out]; exact ⟨_, rfl, fun _ => HO.out, HB.out⟩
      · have h256' : ¬ (n : Int) ≤ 256 := by omega
        have HW2 := Lib.hid (show wishB validB ls = false from by rw [HWB.out]; exact decide_eq_false h256)
        go_wp2
        go_ret2
        rw [HW2.out]; exact ⟨_, rfl, fun h => (by cases h), HB.out⟩
end Go.Proofs.YtojbddcbnnbklaaGreatDoor
namespace Go.Proofs.YtojbddcbnnbklaaGreatDoor
open Go.RowKit P43
attribute [local go_sem] ByteArray.mk_append_mk ByteArray.extract_mk mk_index

/-- The locks of a list that bear a name. -/
def nmIn (ns : List (Nm × Bool)) (s : Nm) (o : Int) : List Int := (ns.filter fun p => decide (p.1 = s)).map fun _ => o
def exIn (ns : List (Nm × Bool)) (s : Nm) : Bool := ns.any fun p => decide (p.1 = s) && p.2
theorem holdsR_take {l : List Om} {k : Nat} {x : Om} (s : Nm) (h : l[k]? = some x) : holdsR ((l.take (k + 1)).map (·.1)) s = holdsR ((l.take k).map (·.1)) s ++ nmIn x.1.ns s x.1.id := by
  rw [List.take_add_one, h, List.map_append]
  unfold holdsR
  rw [List.flatMap_append]
  simp [nmIn]
theorem aloneR_take {l : List Om} {k : Nat} {x : Om} (s : Nm) (h : l[k]? = some x) : aloneR ((l.take (k + 1)).map (·.1)) s = (aloneR ((l.take k).map (·.1)) s || exIn x.1.ns s) := by
  rw [List.take_add_one, h, List.map_append]
  unfold aloneR
  rw [List.any_append]
  simp [exIn]
theorem nmIn_take {l : List (Nm × Bool)} {k : Nat} {p : Nm × Bool} (s : Nm) (o : Int) (h : l[k]? = some p) : nmIn (l.take (k + 1)) s o = if p.1 = s then nmIn (l.take k) s o ++ [o] else nmIn (l.take k) s o := by
  unfold nmIn
  rw [filter_take h]
  by_cases e : p.1 = s <;> simp [e]
theorem exIn_take {l : List (Nm × Bool)} {k : Nat} {p : Nm × Bool} (s : Nm) (h : l[k]? = some p) : exIn (l.take (k + 1)) s = (exIn (l.take k) s || (decide (p.1 = s) && p.2)) := any_take h
theorem nmIn_len (l : List (Nm × Bool)) (s : Nm) (o : Int) : (nmIn l s o).length ≤ l.length := by
  unfold nmIn
  rw [List.length_map]
  exact List.length_filter_le _ _
theorem holdsR_len : ∀ {l : List Om} (_ : ∀ x ∈ l, x.1.ns.length ≤ 1000) (s : Nm), (holdsR (l.map (·.1)) s).length ≤ l.length * 1000
  | [], _, s => by simp [holdsR]
  | x :: l, h, s => by
    have ih := holdsR_len (l := l) (fun y hy => h y (List.mem_cons_of_mem _ hy)) s
    have h1 := nmIn_len x.1.ns s x.1.id
    have h2 := h x (List.mem_cons_self ..)
    show (nmIn x.1.ns s x.1.id ++ holdsR (l.map (·.1)) s).length ≤ _
    rw [List.length_append, List.length_cons]
    omega
theorem WishAt.len {w : World} {x : Om} (h : WishAt w x) : x.1.ns.length ≤ 1000 := by
  rw [h.1.len]
  exact h.2
set_option maxRecDepth 100000 in
set_option maxHeartbeats 8000000 in
theorem refHolders (Ah Aw : Option Addr) (nh ch nw cw : Nat) (s : Nm) (hs : List Om) (w : World) (h : OwsAt w Ah nh hs) (hW : ∀ x ∈ hs, WishAt w x) (hn : nh ≤ 900) :
    Calls Tryz.prog 22 #[.agg #[.slice Ah nh ch, .slice Aw nw cw], .string ⟨s.toArray⟩] w fun e w' => ∃ v, e = .returned (.tuple #[v, .bool (aloneR (hs.map (·.1)) s)]) ∧ OwnI w' w.heap.size v (holdsR (hs.map (·.1)) s) ∧ Below w.heap.size w w' := by
  have H := Lib.hid h
  have HN := Lib.hid h.len
  have HW := Lib.hid hW
  have HL := Lib.hid (fun x hx => (hW x hx).len)
  obtain ⟨i1, hi1', hy0, hy1, hy2⟩ := info_parts infoI
  have HI1 := Lib.hid hi1'
  have HY0 := Lib.hid hy0
  have HY1 := Lib.hid hy1
  have HY2 := Lib.hid hy2
  clear h hW hi1' hy0 hy1 hy2
  go_enter Tryz.func22, Tryz.ntmps22
  go_wp2
  obtain ⟨w2, q1, q2, e1, e2, e3, hb2, hq1, hq2⟩ : ∃ (w2 : World) (q1 q2 : Nat), (w.alloc (.cells #[.slice Ah nh ch, .slice Aw nw cw] tTb)).alloc (.cells #[] 3) = w2 ∧ w.heap.size = q1 ∧ w.heap.size + 1 = q2 ∧ Below w.heap.size w w2 ∧ Blk w2 q1 tTb #[.slice Ah nh ch, .slice Aw nw cw] ∧ Blk w2 q2 3 #[] :=
    ⟨_, _, _, rfl, rfl, rfl, below_alloc (below_alloc (Below.refl _ _) _) _, (Blk.new w _ _).alloc _, by
      have := Blk.new (w.alloc (.cells #[.slice Ah nh ch, .slice Aw nw cw] tTb)) 3 #[]
      rwa [World.size_alloc] at this⟩
  have hqq : w.heap.size ≤ q2 := by omega
  rw [e1, e3, e2]
  have HB2 := Lib.hid hb2
  have HQ1 := Lib.hid hq1
  have HO2 := Lib.hid (OwnI.empty (B := w.heap.size) hqq hq2)
  clear e1 e2 e3 hb2 hq1 hq2
  go_loopw [6, 7, 8] (fun ov xv iv wr => ∃ k : Nat, k ≤ nh ∧ iv = .int .i64 k ∧ OwnI wr w.heap.size ov (holdsR ((hs.take k).map (·.1)) s) ∧ xv = .bool (aloneR ((hs.take k).map (·.1)) s) ∧ Blk wr q1 tTb #[.slice Ah nh ch, .slice Aw nw cw] ∧ Below w.heap.size w wr) (fun _ _ iv _ => nh - (intOf iv).toNat)
  case atStart => exact ⟨0, Nat.zero_le _, rfl, HO2.out, rfl, HQ1.out, HB2.out⟩
  case round =>
    obtain ⟨k, hk, rfl, ho, rfl, hq, hb⟩ := hrel
    have HO := Lib.hid ho
    have HQ := Lib.hid hq
    have HB := Lib.hid hb
    have z0 := hq.cell 0
    simp at z0
    clear ho hq hb
    by_cases hlt : k < nh
    · obtain ⟨b, off, x, rfl, hx, -, -⟩ := (OwsAt.below H.out HB.out).at_ hlt
      have HXI := Lib.hid hx
      have HX := Lib.hid (holdsR_take s hx)
      have HXA := Lib.hid (aloneR_take s hx)
      have HWX := Lib.hid (HW.out x (List.mem_of_getElem? hx))
      have HLK := Lib.hid (show (holdsR ((hs.take k).map (·.1)) s).length ≤ 899000 from by
        have h1 := holdsR_len (l := hs.take k) (fun y hy => HL.out y (List.mem_of_mem_take hy)) s
        have h2 := List.length_take_le k hs
        omega)
      have hk1 : (k : Int) < (nh : Int) := by omega
      have hk2 : (0 : Int) ≤ (k : Int) := by omega
      obtain ⟨O, hO⟩ : ∃ O, holdsR ((hs.take k).map (·.1)) s = O := ⟨_, rfl⟩
      obtain ⟨E, hE⟩ : ∃ E, aloneR ((hs.take k).map (·.1)) s = E := ⟨_, rfl⟩
      rw [hO] at HO HX HLK
      rw [hE] at HXA ⊢
      obtain ⟨n', hn'⟩ : ∃ n', x.2.2.1 = n' := ⟨_, rfl⟩
      have HN' := Lib.hid hn'
      have hn1000 : n' ≤ 1000 := by rw [← hn']; exact HWX.out.2
      clear hx hO hE hn'
      obtain ⟨wo, hwo⟩ : ∃ wo, wr = wo := ⟨_, rfl⟩
      rw [hwo] at HB HQ HO z0 ⊢
      clear hwo wr
      go_wp2
      go_loopw [6, 7, 9] (fun ov xv jv wx => ∃ j : Nat, j ≤ n' ∧ jv = .int .i64 j ∧ OwnI wx w.heap.size ov (O ++ nmIn (x.1.ns.take j) s x.1.id) ∧ xv = .bool (E || exIn (x.1.ns.take j) s) ∧ Blk wx q1 tTb #[.slice (some ⟨b, off, none⟩) nh ch, .slice Aw nw cw] ∧ Below w.heap.size w wx) (fun _ _ jv _ => n' - (intOf jv).toNat)
      case atStart => exact ⟨0, Nat.zero_le _, rfl, by simpa [nmIn] using HO.out, by simp [exIn], HQ.out, HB.out⟩
      case round =>
        clear z0
        obtain ⟨j, hj, rfl, ho, rfl, hq, hbx⟩ := hrel
        have HOX := Lib.hid ho
        have HQX := Lib.hid hq
        have HBX := Lib.hid hbx
        have hszx := hbx.size
        have z0 := hq.cell 0
        simp at z0
        obtain ⟨b', off', x', hA', hx', x0, x1⟩ := (OwsAt.below H.out hbx).at_ hlt
        cases hA'
        obtain rfl : x = x' := by have := HXI.out; rw [hx'] at this; exact (Option.some.inj this).symm
        have hns := HWX.out.1.below hbx
        rw [HN'.out] at x1 hns
        clear ho hq hbx hx'
        by_cases hjl : j < n'
        · obtain ⟨b2, off2, p, hA2, hp, y0, y1⟩ := hns.at_ hjl
          rw [hA2] at x1
          have HPI := Lib.hid hp
          have HP1 := Lib.hid (nmIn_take s x.1.id hp)
          have HP2 := Lib.hid (exIn_take s hp)
          have HLX := Lib.hid (show (O ++ nmIn (x.1.ns.take j) s x.1.id).length ≤ 1000000 from by
            have h1 := nmIn_len (x.1.ns.take j) s x.1.id
            have h2 := List.length_take_le j x.1.ns
            have h3 := HLK.out
            rw [List.length_append]
            omega)
          have hj1 : (j : Int) < (n' : Int) := by omega
          have hj2 : (0 : Int) ≤ (j : Int) := by omega
          obtain ⟨O2, hO2⟩ : ∃ O2, O ++ nmIn (x.1.ns.take j) s x.1.id = O2 := ⟨_, rfl⟩
          obtain ⟨E2, hE2⟩ : ∃ E2, (E || exIn (x.1.ns.take j) s) = E2 := ⟨_, rfl⟩
          have HO2' := Lib.hid hO2
          have HE2 := Lib.hid hE2
          rw [hO2] at HOX HLX
          rw [hE2]
          clear hp hA2 hns hO2 hE2
          obtain ⟨pn, px⟩ := p
          simp only at y0 y1 HP1 HP2
          by_cases he : pn = s
          · subst he
            cases E2
            all_goals
              go_upto_region 10 with (at_builtin; refine wpList_append_int rfl (.tmp 41) (.tmp 48) _ rfl w.heap.size i1 _ Tryz.underlying33 HI1.out HY0.out HY1.out HY2.out rfl _ O2 rfl (HOX.out.alloc _) x.1.id wr.heap.size 1 rfl (World.cell?_alloc_mark wr _ 3 (0, 0) 0) HLX.out (by simp; omega) ?_; intro v3 w3 hown3 hg3 hat3; have HO3 := Lib.hid hown3; have HG3 := Lib.hid hg3; clear hown3 hg3 hat3)
              have HB3 := Lib.hid ((HBX.out.alloc hszx _).grown HG3.out (by simp; omega) (fun k e => (HOX.out.lt k e).1))
              have HQ3 := Lib.hid ((HQX.out.alloc _).grown HG3.out (fun e => by
                obtain ⟨cs, hb⟩ := HOX.out.own q1 (by first | exact e | exact e.symm)
                exact Blk.ne HQX.out hb (by decide) rfl))
              clear z0 x0 x1 y0 y1 HG3
              have z0 := HQ3.out.cell 0
              simp at z0
              obtain ⟨b', off', x', hA', hx', -, x1⟩ := (OwsAt.below H.out HB3.out).at_ hlt
              cases hA'
              obtain rfl : x = x' := by have := HXI.out; rw [hx'] at this; exact (Option.some.inj this).symm
              have hns := HWX.out.1.below HB3.out
              rw [HN'.out] at x1 hns
              obtain ⟨b3, off3, p', hA2, hp', -, y1⟩ := hns.at_ hjl
              rw [hA2] at x1
              obtain rfl : p' = (pn, px) := by have := HPI.out; rw [hp'] at this; exact Option.some.inj this
              simp only at y1
              clear hx' hp' hA2 hns
              go_wp2
              refine ⟨⟨j + 1, hjl, by simp, by rw [HP1.out, if_pos rfl, ← List.append_assoc, HO2'.out]; exact HO3.out, by rw [HP2.out, ← Bool.or_assoc, HE2.out]; simp, HQ3.out, HB3.out⟩, by dsimp only [intOf]; omega⟩
          · have hd1 : (pn == s) = false := beq_eq_false_iff_ne.2 he
            have hd2 : ((pn : List UInt8) == (s : List UInt8)) = false := beq_eq_false_iff_ne.2 he
            have HE := Lib.hid he
            clear he
            go_wp2
            go_roundw
            case rel => exact ⟨j + 1, hjl, by simp, by rw [HP1.out, if_neg HE.out, HO2'.out]; exact HOX.out, by rw [HP2.out, decide_eq_false HE.out, ← HE2.out]; simp, HQX.out, HBX.out⟩
            case measure => dsimp only [intOf]; omega
        · have hjn : j = n' := by omega
          have hj1 : ¬ (j : Int) < (n' : Int) := by omega
          have htk : x.1.ns.take j = x.1.ns := by rw [hjn, ← HN'.out, ← HWX.out.1.len, List.take_length]
          rw [htk] at HOX ⊢
          clear htk
          go_wp2
          refine ⟨⟨k + 1, hlt, by simp, by rw [HX.out]; exact HOX.out, by rw [HXA.out], HQX.out, HBX.out⟩, by dsimp only [intOf]; omega⟩
    · have hkn : k = nh := by omega
      have hk1 : ¬ (k : Int) < (nh : Int) := by omega
      have htk : hs.take k = hs := by rw [hkn, ← HN.out, List.take_length]
      rw [htk] at HO ⊢
      clear htk
      go_wp2
      go_ret2
      exact ⟨_, rfl, HO.out, HB.out⟩
end Go.Proofs.YtojbddcbnnbklaaGreatDoor
namespace Go.Proofs.YtojbddcbnnbklaaGreatDoor
open Go.RowKit P43
attribute [local go_sem] ByteArray.mk_append_mk ByteArray.extract_mk mk_index

theorem rIdx_first (o : Int) (ls : List Om) : (rIdx o ls = -1 ∧ ∀ x ∈ ls, ¬ x.1.id = o) ∨ ∃ (k : Nat) (x : Om), rIdx o ls = k ∧ ls[k]? = some x ∧ x.1.id = o ∧ ∀ (j : Nat) (y : Om), j < k → ls[j]? = some y → ¬ y.1.id = o := by
  unfold rIdx
  cases h : ls.findIdx? (fun x => decide (x.1.id = o)) with
  | none =>
    refine .inl ⟨rfl, ?_⟩
    rw [List.findIdx?_eq_none_iff] at h
    intro x hx
    simpa using h x hx
  | some k =>
    rw [List.findIdx?_eq_some_iff_getElem] at h
    obtain ⟨hk, h1, h2⟩ := h
    refine .inr ⟨k, ls[k], rfl, List.getElem?_eq_getElem hk, by simpa using h1, fun j y hj hy => ?_⟩
    have hjl : j < ls.length := by omega
    rw [List.getElem?_eq_getElem hjl] at hy
    have := h2 j hj
    rw [Option.some.inj hy] at this
    simpa using this
theorem blocksR_none {hs ws : List Om} {o : Int} (h : ∀ x ∈ ws, ¬ x.1.id = o) : blocksP ⟨hs.map (·.1), ws.map (·.1)⟩ o = [] := by
  unfold blocksP
  rw [cutAt_none]
  intro hm
  obtain ⟨c, hc, e⟩ := List.mem_map.1 hm
  obtain ⟨x, hx, rfl⟩ := List.mem_map.1 hc
  exact h x hx e
theorem blocksR_some {hs ws : List Om} {o : Int} {k : Nat} {x : Om} (hx : ws[k]? = some x) (hid : x.1.id = o) (hj : ∀ (j : Nat) (y : Om), j < k → ws[j]? = some y → ¬ y.1.id = o) :
    blocksP ⟨hs.map (·.1), ws.map (·.1)⟩ o = sortZ (idsR (blkR hs x.1.ns) ++ idsR (blkR (ws.take k) x.1.ns)) := by
  have hsp := split_at hx
  have hn : x.1.id ∉ ids ((ws.take k).map (·.1)) := by
    intro hm
    obtain ⟨c, hc, e⟩ := List.mem_map.1 hm
    obtain ⟨y, hy, rfl⟩ := List.mem_map.1 hc
    obtain ⟨j, hjy⟩ := List.mem_iff_getElem?.1 hy
    have hjk : j < k := by
      have := (List.getElem?_eq_some_iff.1 hjy).1
      rw [List.length_take] at this
      omega
    rw [List.getElem?_take_of_lt hjk] at hjy
    exact hj j y hjk hjy (e.trans hid)
  have h1 := cutAt_at (pre := (ws.take k).map (·.1)) (post := (ws.drop (k + 1)).map (·.1)) (c := x.1) hn
  have h2 : ws.map (·.1) = (ws.take k).map (·.1) ++ x.1 :: (ws.drop (k + 1)).map (·.1) := by
    conv => lhs; rw [hsp]
    rw [List.map_append, List.map_cons]
  unfold blocksP
  rw [← hid]
  simp only
  rw [h2, h1]
  simp only
  rw [ids_append, blkR_ids, blkR_ids]
theorem OwsAt.front {w : World} {A : Option Addr} {n k : Nat} {ls : List Om} (h : OwsAt w A n ls) (hk : k ≤ n) : OwsAt w A k (ls.take k) := by
  have := CellsAt.pre h hk
  rw [take_mul] at this
  exact this
set_option maxRecDepth 100000 in
set_option maxHeartbeats 8000000 in
theorem refBlocks (Ah Aw : Option Addr) (nh ch nw cw : Nat) (o : Int) (hs ws : List Om) (w : World) (h : OwsAt w Ah nh hs) (h2 : OwsAt w Aw nw ws) (hW : ∀ x ∈ hs ++ ws, WishAt w x) (hn : nh + nw ≤ 1000) (hcw : nw ≤ cw) :
    Calls Tryz.prog 20 #[.agg #[.slice Ah nh ch, .slice Aw nw cw], .int .i64 o] w fun e w' => ∃ v, e = .returned v ∧ OwnI w' w.heap.size v (blocksP ⟨hs.map (·.1), ws.map (·.1)⟩ o) ∧ Below w.heap.size w w' := by
  have H := Lib.hid h
  have H2 := Lib.hid h2
  have HN := Lib.hid h.len
  have HW := Lib.hid hW
  clear h h2 hW
  go_enter Tryz.func20, Tryz.ntmps20
  go_wp2_with fail
  obtain ⟨w2, q1, e1, e2, hb2, hq1⟩ := boxes1 w tTb #[.slice Ah nh ch, .slice Aw nw cw]
  rw [e1, e2]
  have HB2 := Lib.hid hb2
  have HQ1 := Lib.hid hq1
  clear e1 e2 hb2 hq1
  refine (refIndex Aw nw cw o ws w2 (OwsAt.below H2.out HB2.out) (by omega)).mono ?_
  rintro e w3 ⟨rfl, hb3⟩
  have HB3 := Lib.hid (HB2.out.trans (hb3.mono HB2.out.size))
  have HQ3 := Lib.hid (HQ1.out.below hb3)
  clear hb3
  have z0 := HQ3.out.cell 0
  have z1 := HQ3.out.cell 1
  simp at z0 z1
  rcases rIdx_first o ws with ⟨hi, hall⟩ | ⟨k, x, hi, hx, hid, hall⟩
  · rw [hi]
    have HR := Lib.hid (blocksR_none (hs := hs) hall)
    go_wp2
    go_ret
    rw [HR.out]
    exact ⟨_, rfl, OwnI.nil _ _, HB3.out⟩
  · rw [hi]
    have hkn : k < nw := by
      have h1 := (List.getElem?_eq_some_iff.1 hx).1
      have h2 := OwsAt.len H2.out
      omega
    obtain ⟨b, off, x', rfl, hx', x0, x1⟩ := (OwsAt.below H2.out HB3.out).at_ hkn
    obtain rfl : x = x' := by rw [hx] at hx'; exact Option.some.inj hx'
    have hk1 : ¬ (k : Int) < 0 := by omega
    have hk2 : (0 : Int) ≤ (k : Int) := by omega
    have hk3 : (k : Int) < (nw : Int) := by omega
    have hk4 : (k : Int) ≤ (cw : Int) := by omega
    have HWX := Lib.hid (HW.out x (List.mem_append_right _ (List.mem_of_getElem? hx)))
    have HR := Lib.hid (blocksR_some (hs := hs) hx hid hall)
    have HWH := Lib.hid (show ∀ y ∈ hs, WishAt w y from fun y hy => HW.out y (List.mem_append_left _ hy))
    have HWW := Lib.hid (show ∀ y ∈ ws.take k, WishAt w y from fun y hy => HW.out y (List.mem_append_right _ (List.mem_of_mem_take hy)))
    have HF := Lib.hid (H2.out.front (k := k) (by omega))
    have HXL := Lib.hid (show ∀ w' : World, Below w.heap.size w w' → w'.cell? ⟨b, off + k * 2 + 1, none⟩ = some (.slice x.2.1 x.2.2.1 x.2.2.2) from fun w' h' => by
      obtain ⟨b', off', y, hA', hy, -, y1⟩ := (OwsAt.below H2.out h').at_ hkn
      cases hA'
      obtain rfl : x = y := by rw [hx] at hy; exact Option.some.inj hy
      exact y1)
    clear hx hx' hi hall x0
    go_upto_region 4 with (fail)
    go_still_tail 8, (by kernel_rfl)
    go_upto_region 5 with (go_at_call 28; refine (refBlocked Ah x.2.1 nh ch x.2.2.1 x.2.2.2 hs x.1.ns _ (OwsAt.below H.out HB3.out.drew) (fun y hy => (HWH.out y hy).below HB3.out.drew) (HWX.out.1.below HB3.out.drew) (by omega) HWX.out.2).mono ?_; rintro e w4 ⟨v4, rfl, ho4, hb4⟩; have HO4 := Lib.hid (show OwnI w4 w.heap.size v4 (sortZ (idsR (blkR hs x.1.ns))) from ho4.base HB3.out.size); have HB4' := Lib.hid (show Below w3.heap.size w3 w4 from ⟨hb4.os, hb4.tape, hb4.output, hb4.size, hb4.block⟩); clear ho4 hb4)
    have HB4 := Lib.hid (HB3.out.trans (HB4'.out.mono HB3.out.size))
    have HQ4 := Lib.hid (HQ3.out.below HB4'.out)
    clear z0 z1 x1
    have z1 := HQ4.out.cell 1
    have x1 := HXL.out _ HB4.out
    simp at z1
    go_still_tail 10, (by kernel_rfl)
    go_wp2_with (go_at_call 28; refine (refBlocked (some ⟨b, off, none⟩) x.2.1 k cw x.2.2.1 x.2.2.2 (ws.take k) x.1.ns _ (OwsAt.below HF.out HB4.out.drew) (fun y hy => (HWW.out y hy).below HB4.out.drew) (HWX.out.1.below HB4.out.drew) (by omega) HWX.out.2).mono ?_; rintro e w5 ⟨v5, rfl, ho5, hb5⟩; have HO5 := Lib.hid (show OwnI w5 w.heap.size v5 (sortZ (idsR (blkR (ws.take k) x.1.ns))) from ho5.base HB4.out.size); have HB5' := Lib.hid (show Below w4.heap.size w4 w5 from ⟨hb5.os, hb5.tape, hb5.output, hb5.size, hb5.block⟩); clear ho5 hb5)
    have HB5 := Lib.hid (HB4.out.trans (HB5'.out.mono HB4.out.size))
    have HO45 := Lib.hid (HO4.out.below HB5'.out)
    obtain ⟨P, hP⟩ : ∃ P, idsR (blkR hs x.1.ns) = P := ⟨_, rfl⟩
    obtain ⟨Q, hQ⟩ : ∃ Q, idsR (blkR (ws.take k) x.1.ns) = Q := ⟨_, rfl⟩
    have HPL := Lib.hid (show P.length + Q.length ≤ 1000 from by
      have h1 := List.length_filter_le (fun y : Om => confL y.1.ns x.1.ns) hs
      have h2 := List.length_filter_le (fun y : Om => confL y.1.ns x.1.ns) (ws.take k)
      have h3 := List.length_take_le k ws
      have h4 := HN.out
      rw [← hP, ← hQ]
      unfold idsR blkR
      rw [List.length_map, List.length_map]
      omega)
    rw [hP] at HO45 HR
    rw [hQ] at HO5 HR
    obtain ⟨S, hS⟩ : ∃ S, sortZ Q = S := ⟨_, rfl⟩
    have HSQ := Lib.hid (show S.Perm Q from by rw [← hS]; exact sortZ_perm Q)
    rw [hS] at HO5
    obtain ⟨A5, c5, rfl, hz5, hc5⟩ := HO5.out.zcells
    obtain ⟨m, hm⟩ : ∃ m, S.length = m := ⟨_, rfl⟩
    have hmn : m ≤ 1000 := by have h1 := HPL.out; have h2 := HSQ.out.length_eq; omega
    have HM := Lib.hid hm
    rw [hm] at hz5 ⊢
    have HZ5 := Lib.hid hz5
    clear hP hQ hS hm hz5 hc5 z1 x1 HQ4 HO4 HB4' HB5' HO5
    go_loopw [6, 8] (fun ov iv wr => ∃ j : Nat, j ≤ m ∧ iv = .int .i64 j ∧ OwnI wr w.heap.size ov (sortZ (P ++ S.take j)) ∧ Below w5.heap.size w5 wr) (fun _ iv _ => m - (intOf iv).toNat)
    case atStart => exact ⟨0, Nat.zero_le _, rfl, by simpa using HO45.out, Below.refl _ _⟩
    case round =>
      clear HO45
      obtain ⟨j, hj, rfl, ho, hb⟩ := hrel
      have HO := Lib.hid ho
      have HBX := Lib.hid hb
      have hsx := hb.size
      have HB := Lib.hid (HB5.out.trans (hb.mono HB5.out.size))
      have hsz := HB.out.size
      clear ho hb
      by_cases hlt : j < m
      · obtain ⟨b6, off6, y, rfl, hy, y0⟩ := (HZ5.out.below HBX.out).at_ hlt
        have HX := Lib.hid (show P ++ S.take (j + 1) = (P ++ S.take j) ++ [y] from by rw [List.take_add_one, hy, List.append_assoc]; rfl)
        obtain ⟨zs, hzs⟩ : ∃ zs, sortZ (P ++ S.take j) = zs := ⟨_, rfl⟩
        have HZS := Lib.hid hzs
        have hlk : zs.length ≤ 100000 := by
          have h1 := List.length_take_le j S
          have h2 := HPL.out
          rw [← hzs, len_sortZ, List.length_append]
          omega
        rw [hzs] at HO
        have HASC := Lib.hid (show zs.Pairwise (· ≤ ·) from by rw [← hzs]; exact sortZ_asc _)
        obtain ⟨A3, c3, rfl, hz3, hc3⟩ := HO.out.zcells
        obtain ⟨m3, hm3⟩ : ∃ m3, zs.length = m3 := ⟨_, rfl⟩
        rw [hm3] at hz3 hc3 hlk ⊢
        have HZ3 := Lib.hid hz3
        have hj1 : (j : Int) < (m : Int) := by omega
        have hj2 : (0 : Int) ≤ (j : Int) := by omega
        clear hy hzs hm3 hz3
        go_wp2_with (go_at_call 33; refine (refAdd A3 m3 c3 y zs _ HZ3.out hc3 hlk HASC.out).mono ?_; rintro e w7 ⟨v7, rfl, ho7, hb7⟩; have HO7 := Lib.hid (ho7.base hsz); have HB7 := Lib.hid (HBX.out.trans (hb7.mono hsx)); clear ho7 hb7)
        refine ⟨⟨j + 1, hlt, by simp, ?_, HB7.out⟩, by dsimp only [intOf]; omega⟩
        have := HO7.out
        rw [← HZS.out, sortZ_snoc] at this
        rw [HX.out]
        exact this
      · have hjm : j = m := by omega
        have hj1 : ¬ (j : Int) < (m : Int) := by omega
        go_wp2
        go_ret
        have h := HO.out
        rw [hjm, ← HM.out, List.take_length, sortZ_congr (HSQ.out.append_left P)] at h
        rw [HR.out]
        exact ⟨_, rfl, h, HB.out⟩
end Go.Proofs.YtojbddcbnnbklaaGreatDoor
