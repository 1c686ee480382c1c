/- The walks of the reference's Same, of segments and of SpannedSegments: it returns true. -/
import Derived.Test.YtabpgfcmfflceaaDoorRefSeg
import Derived.Test.YtabpgfcmfflceaaDoorAwake
import Derived.Test.YtabpgfcmfflceaaDoorEq
namespace Go.Proofs.YtabpgfcmfflceaaDoor
open Go.RowKit P12 Go.Sort
attribute [local go_sem] ByteArray.mk_append_mk ByteArray.extract_mk mk_index

theorem sv_mk (b a : Bool) (d : Bs) : sv ⟨b, a, d⟩ = .agg #[.bool b, .bool a, .string ⟨d.toArray⟩] := rfl
theorem stood61 : Tryd.prog.stoodInHeld 61 = false := by kernel_rfl
theorem under61 : Tryd.prog.underlying 61 = some (.struct (Tryd.prog.fieldsOf 61)) := by kernel_rfl
theorem parts61 : ((Tryd.prog.fieldsOf 61).toList.map fun f => (decide (f.name = "_"), f.type, f.offset)) = [(false, 4, 0), (false, 4, 1), (false, 9, 2)] := by kernel_rfl
theorem run_neq_seg (w : World) (r s : Seg) : (binOp .neq 61 (sv r) (sv s)).run Tryd.prog w = .ok (.bool (!decide (r = s))) w := by
  obtain ⟨a, b, c⟩ := r
  obtain ⟨a', b', c'⟩ := s
  rw [sv_mk, sv_mk]
  refine run_neq_parts w 61 _ _ _ under61 stood61 parts61 _ ?_
  by_cases h1 : a = a' <;> by_cases h2 : b = b' <;> by_cases h3 : c = c' <;> simp [go_sem, eqParts, part, h1, h2, h3]
theorem run_neq_seg_guarded (r s : Seg) (x y : Operand) (w : World) : (eqGuard .neq 61 x y (sv r) (sv s) >>= fun _ => binOp .neq 61 (sv r) (sv s)).run Tryd.prog w = .ok (.bool (!decide (r = s))) w := by
  have e1 : (eqGuard .neq 61 x y (sv r) (sv s)).run Tryd.prog w = .ok () w := run_eqGuard_agg w .neq 61 x y _ _ (by kernel_rfl)
  rw [Sem.run_bind, e1, Result.andThen_ok]
  exact run_neq_seg w r s

theorem seg_regrown {w : World} {b off n : Nat} {ls : List Seg} (h : SegsAt w (some ⟨b, off, none⟩) n ls) {k : Nat} {l : Seg} (hl : ls[k]? = some l) (w' : World) (hw : ∃ p : Regrown, w' = grow (redrawn w p.d) p.os) :
    ∀ j u, (sc l)[j]? = some u → w'.cell? ((⟨b, off + k * 3, none⟩ : Addr).add j) = some u := by
  obtain ⟨p, rfl⟩ := hw
  intro j u hj
  have h1 := SegsAt.row h hl j u (by simpa [sc] using hj)
  rw [(below_regrown w p.d p.os).cell (World.block_lt_of_cell? w _ h1)]
  exact h1

def sameG (ls ms : List Seg) : Bool := decide (ls = ms)

set_option maxHeartbeats 1000000 in
theorem same20 (A A' : Option Addr) (n c n' c' : Nat) (ss tt : List Seg) (w : World) (h : SegsAt w A n ss) (h' : SegsAt w A' n' tt) (hn : n ≤ maxLen) (hn' : n' ≤ maxLen) :
    Calls Tryd.prog 20 #[.slice A n c, .slice A' n' c'] w fun e w' => e = .returned (.bool (sameG ss tt)) ∧ Below w.heap.size w w' := by
  unfold maxLen at hn hn'
  by_cases hne : n = n'
  · subst hne
    have H := Lib.hid h
    have H' := Lib.hid h'
    clear h h'
    have hnn : ((n : Int) != (n : Int)) = false := by simp
    go_enter Tryd.func20, Tryd.ntmps20
    go_wp2
    go_loopw [5] (fun i wr => ∃ k : Nat, k ≤ n ∧ i = .int .i64 k ∧ Hid (∀ j, j < k → ss[j]? = tt[j]?) ∧ Below w.heap.size w wr) (fun i _ => n - (intOf i).toNat)
    case atStart => exact ⟨0, Nat.zero_le _, rfl, fun j hj => absurd hj (by omega), Below.refl _ _⟩
    case round =>
      obtain ⟨k, hk, rfl, hall, hbw⟩ := hrel
      by_cases hlt : k < n
      · obtain ⟨b, off, s, rfl, hs, -, -, -⟩ := (H.out.below hbw).at_ hlt
        obtain ⟨b', off', s', rfl, hs', -, -, -⟩ := (H'.out.below hbw).at_ hlt
        have HS := Lib.hid hs
        have HS' := Lib.hid hs'
        have R1 := Lib.hid (seg_regrown (H.out.below hbw) hs)
        have R2 := Lib.hid (seg_regrown (H'.out.below hbw) hs')
        clear hs hs'
        go_wp2
        refine wp_region_quiet_below (by kernel_rfl) (by kernel_rfl) ?_
        repeat (first | (refine wpQuiet_load_at rfl 61 (.tmp 19) rfl _ rfl (sc s) _ R1.out Tryd.underlying61 rfl (by kernel_rfl) ?_) | (refine wpQuiet_load_at rfl 61 (.tmp 23) rfl _ rfl (sc s') _ R2.out Tryd.underlying61 rfl (by kernel_rfl) ?_) | (refine wpQuiet_bin rfl .neq 61 61 (.tmp 20) (.tmp 24) rfl (sv s) (sv s') rfl rfl (.bool (!decide (s = s'))) (run_neq_seg_guarded s s' _ _) ?_) | quiet_step (fail))
        refine wpQuiet_nil ?_
        intro w7 hw7
        obtain ⟨p, rfl⟩ := hw7
        have hb7 := below_then_ hbw (below_regrown wr p.d p.os)
        generalize grow (redrawn wr p.d) p.os = w7 at *
        by_cases he : s = s'
        · have HE := Lib.hid he
          have hde : decide (s = s') = true := decide_eq_true he
          rw [hde]
          clear hde he
          go_wp2
          go_roundw
          case rel =>
            refine ⟨k + 1, by omega, by go_num, ?_, hb7⟩
            intro j hj
            by_cases hjk : j = k
            · subst hjk
              rw [HS.out, HS'.out, HE.out]
            · exact hall.out j (by omega)
          case measure => simp [intOf]; omega
        · have HO := Lib.hid (show sameG ss tt = false from decide_eq_false (fun e => by
            subst e
            have := HS.out.symm.trans HS'.out
            simp only [Option.some.injEq] at this
            exact he this))
          have hde : decide (s = s') = false := decide_eq_false he
          rw [hde]
          clear hde he
          go_wp2
          go_ret
          exact ⟨retBool HO.out.symm, hb7⟩
      · have hkn : k = n := by omega
        subst hkn
        have HO := Lib.hid (show sameG ss tt = true from decide_eq_true (list_eq_of H.out.len H'.out.len hall.out))
        go_wp2
        go_ret
        exact ⟨retBool HO.out.symm, hbw⟩
  · have hout : sameG ss tt = false := by
      apply decide_eq_false
      intro e
      subst e
      exact hne (h.len.symm.trans h'.len)
    have HO := Lib.hid hout
    clear hout h h'
    have hnn : ((n : Int) != (n' : Int)) = true := bne_of (by omega)
    go_enter Tryd.func20, Tryd.ntmps20
    go_wp2
    go_ret
    exact ⟨retBool HO.out.symm, Below.refl _ _⟩

set_option maxHeartbeats 1000000 in
theorem segments21 (A : Option Addr) (n c : Nat) (ls : List Seg) (w : World) (h : SegsAt w A n ls) (hn : n ≤ 1000000) :
    Calls Tryd.prog 21 #[.slice A n c] w fun e w' => ∃ v, e = .returned v ∧ OwnG w' w.heap.size 61 v ls ∧ Below w.heap.size w w' := by
  have H := Lib.hid h
  clear h
  obtain ⟨i0, hi0, hz0, hz1, hz2⟩ := info_parts info61
  have HI := Lib.hid hi0
  have HZ0 := Lib.hid hz0
  have HZ1 := Lib.hid hz1
  have HZ2 := Lib.hid hz2
  clear hi0 hz0 hz1 hz2
  go_enter Tryd.func21, Tryd.ntmps21
  go_wp2
  go_loopw [3, 9] (fun out i wr => ∃ (k : Nat) (xs : List Seg), k ≤ n ∧ i = .int .i64 k ∧ Hid (xs = ls.take k) ∧ OwnG wr w.heap.size 61 out xs ∧ Below w.heap.size w wr ∧ xs.length ≤ k) (fun _ i _ => n - (intOf i).toNat)
  case atStart => exact ⟨0, [], Nat.zero_le _, rfl, rfl, OwnG.empty _ _ _ (Nat.le_refl _), below_alloc (Below.refl _ _) _, by simp⟩
  case round =>
    obtain ⟨k, xs, hk, rfl, hx, hown, hbw, hxl⟩ := hrel
    have hsz := hbw.size
    by_cases hlt : k < n
    · obtain ⟨b, off, s, rfl, hs, m0, m1, m2⟩ := (H.out.below hbw).at_ hlt
      have HT := Lib.hid (take_snoc hs)
      have hbl := World.block_lt_of_cell? wr _ m0
      have HO := Lib.hid ((hown.alloc (.cells #[.bool s.b, .bool s.a, .string ⟨s.d.toArray⟩] 43)).alloc (.cells #[.bool s.b, .bool s.a, .string ⟨s.d.toArray⟩] 61))
      have HB := Lib.hid ((hbw.alloc hsz (.cells #[.bool s.b, .bool s.a, .string ⟨s.d.toArray⟩] 43)).alloc (by simp; omega) (.cells #[.bool s.b, .bool s.a, .string ⟨s.d.toArray⟩] 61))
      have HL := Lib.hid (SegsAt.lit1 (wr.alloc (.cells #[.bool s.b, .bool s.a, .string ⟨s.d.toArray⟩] 43)) 61 s)
      simp only [World.size_alloc] at HL
      clear hs hown hbw
      go_wp2_with (at_builtin; refine wpList_append_seg rfl (.tmp 13) (.tmp 21) _ rfl w.heap.size 61 i0 _ 24 Tryd.underlying35 HI.out HZ0.out HZ1.out HZ2.out rfl (by decide) _ xs rfl HO.out s (wr.heap.size + 1) 0 1 rfl HL.out (by omega) HB.out.size ?_; intro v5 w5 hown5 hg5 _ _)
      go_roundw
      case rel =>
        refine ⟨k + 1, xs ++ [s], by omega, by go_num, ?_, hown5, HB.out.grown hg5 HB.out.size (fun k hk => (HO.out.lt k hk).1), by simp; omega⟩
        show _ = _
        rw [HT.out, hx.out]
      case measure => simp [intOf]; omega
    · have hkn : k = n := by omega
      subst hkn
      have hx2 : xs = ls := by rw [hx.out, List.take_of_length_le (by have := H.out.len; omega)]
      go_wp2
      go_ret
      exact ⟨_, rfl, by rw [← hx2]; exact hown, hbw⟩

theorem Segged.shape {e : TypeId} {L K : Int} {d : Bs} {w w' : World} {v : Value} (h : OwnG w' w.heap.size e v (segOut L K d)) : ∃ A n c, v = .slice A n c ∧ SegsAt w' A n (segOut L K d) ∧ n ≤ maxLen ∧ n = (segOut L K d).length := by
  obtain ⟨A, c, rfl, h1, h2⟩ := h.cells
  exact ⟨A, _, c, rfl, h1, h2, rfl⟩
theorem length_segOut (L K : Int) (d : Bs) : (segOut L K d).length ≤ d.length := by
  unfold segOut
  by_cases hv : vok L K = true
  · rw [if_pos hv]
    cases h : segs L.toNat K.toNat d with
    | none => simp
    | some ls =>
      simp only [Option.getD_some]
      rw [segs_eq] at h
      split at h
      · cases h
      · have key : ∀ (n : Nat) (f : Bs) (full fst : Bool) (ls : List Seg), f.length ≤ n → recs L.toNat full fst f = some ls → ls.length ≤ f.length := by
          intro n
          induction n with
          | zero =>
            intro f full fst ls hf h
            rw [List.eq_nil_of_length_eq_zero (l := f) (by omega), recs_nil] at h
            simp only [Option.some.injEq] at h
            subst h
            simp
          | succ n ih =>
            intro f full fst ls hf h
            by_cases hf0 : f = []
            · rw [hf0, recs_nil] at h
              simp only [Option.some.injEq] at h
              subst h
              simp
            · cases hh : head L.toNat f with
              | none => rw [recs_stop hf0 hh] at h; cases h
              | some x =>
                obtain ⟨x, rest⟩ := x
                rw [recs_step hf0 hh] at h
                split at h
                · cases h
                · obtain ⟨ms, hm, rfl⟩ := Option.map_eq_some_iff.1 h
                  have h1 := head_lt hh
                  have := ih rest _ _ ms (by omega) hm
                  simp only [List.length_cons]
                  omega
        have := key _ _ _ _ _ (Nat.le_refl _) h
        simp at this
        omega
  · rw [if_neg hv]
    simp

set_option maxHeartbeats 1000000 in
theorem segments4 (L K : Int) (d : Bs) (w : World) (C : Codes w) :
    Calls Tryd.prog 4 #[.int .i64 L, .int .i64 K, .string ⟨d.toArray⟩] w fun e w' => e = .returned (.bool true) ∧ Below w.heap.size w w' := by
  by_cases hd : d.length ≤ 1100
  · have hdI : ¬ (1100 : Int) < (d.length : Int) := by omega
    have hol := length_segOut L K d
    go_enter Tryd.func4, Tryd.ntmps4
    go_wp2_with fail
    refine (awake11 _ C).mono ?_
    rintro e w1 ⟨rfl, hb1⟩
    have HB1 := Lib.hid hb1
    clear hb1
    go_wp2_with fail
    refine (segs18 _ _ _ _ (C.below HB1.out) (by omega)).mono ?_
    rintro e w2 ⟨v2, rfl, hown2, hb2⟩
    obtain ⟨A2, n2, c2, rfl, hs2, hn2, hl2⟩ := Segged.shape hown2
    have HB2 := Lib.hid (below_then HB1.out hb2)
    have HS2 := Lib.hid hs2
    have hn2' : n2 ≤ 1100 := by omega
    clear hb2 hs2 hown2 hl2 hol
    go_wp2_with fail
    refine (segs19 _ _ _ _ (by omega)).mono ?_
    rintro e w3 ⟨v3, rfl, hown3, hb3⟩
    obtain ⟨A3, n3, c3, rfl, hs3, hn3, -⟩ := Segged.shape hown3
    have HB3 := Lib.hid (below_then HB2.out hb3)
    have HS3 := Lib.hid hs3
    have HS2' := Lib.hid (HS2.out.below hb3)
    have hee : ((segErr L K d) == (segErr L K d)) = true := beq_self_eq_true _
    have HSG := Lib.hid (show sameG (segOut L K d) (segOut L K d) = true from decide_eq_true rfl)
    clear hb3 hs3 hown3
    go_wp2_with fail
    refine (segments21 _ _ _ _ _ HS2'.out (by omega)).mono ?_
    rintro e w4 ⟨v4, rfl, hown4, hb4⟩
    obtain ⟨A4, c4, rfl, hs4, hn4⟩ := hown4.cells
    have HB4 := Lib.hid (below_then HB3.out hb4)
    have HS4 := Lib.hid hs4
    have HS3' := Lib.hid (HS3.out.below hb4)
    clear hb4 hs4 hown4
    go_wp2_with fail
    refine (same20 _ _ _ _ _ _ _ _ _ HS4.out HS3'.out hn4 hn3).mono ?_
    rintro e w5 ⟨rfl, hb5⟩
    rw [HSG.out]
    go_wp2
    go_ret
    exact ⟨rfl, below_then HB4.out hb5⟩
  · have hdI : (1100 : Int) < (d.length : Int) := by omega
    go_enter Tryd.func4, Tryd.ntmps4
    go_wp2_with fail
    refine (awake11 _ C).mono ?_
    rintro e w1 ⟨rfl, hb1⟩
    have HB1 := Lib.hid hb1
    clear hb1
    go_wp2_with fail
    refine (awake11 _ (C.below HB1.out)).mono ?_
    rintro e w3 ⟨rfl, hb3⟩
    go_wp2_with fail
    go_ret
    exact ⟨rfl, below_then HB1.out hb3⟩
end Go.Proofs.YtabpgfcmfflceaaDoor
