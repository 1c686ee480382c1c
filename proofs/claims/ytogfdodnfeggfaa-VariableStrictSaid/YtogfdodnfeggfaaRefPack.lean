/- The walk of dasdref11.Pack: it returns what variable.Pack returns. -/
import Derived.Test.YtogfdodnfeggfaaBlock
namespace Go.Proofs.Ytogfdodnfeggfaa
open Go.RowKit P11 Go.Sort
attribute [local go_sem] ByteArray.mk_append_mk ByteArray.extract_mk mk_index

/-- The state of the reference's packing behind k records. -/
def stB (K : Nat) (rs : List Bs) (k : Nat) : List Bs × List Bs := (rs.take k).foldl (stepB K) ([], [])
theorem stB_succ {K : Nat} {rs : List Bs} {k : Nat} {r : Bs} (h : rs[k]? = some r) : stB K rs (k + 1) = stepB K (stB K rs k) r := by
  unfold stB
  rw [take_snoc h, List.foldl_append]
  rfl
theorem stB_all {K : Nat} {rs : List Bs} {n : Nat} (h : rs.length = n) : finB (stB K rs n) = packB K rs := by
  unfold stB packB
  rw [List.take_of_length_le (by omega)]
theorem stB_flush {K : Nat} {rs : List Bs} {k : Nat} {r : Bs} {out l : List Bs} (h : rs[k]? = some r) (hs : stB K rs k = (out, l)) (hk : K < (block (l ++ [r])).length) : stB K rs (k + 1) = (out ++ [block l], [r]) := by
  rw [stB_succ h, hs]
  unfold stepB
  rw [if_pos hk]
theorem stB_more {K : Nat} {rs : List Bs} {k : Nat} {r : Bs} {out l : List Bs} (h : rs[k]? = some r) (hs : stB K rs k = (out, l)) (hk : ¬ K < (block (l ++ [r])).length) : stB K rs (k + 1) = (out, l ++ [r]) := by
  rw [stB_succ h, hs]
  unfold stepB
  rw [if_neg hk]

theorem OwnS.empty (w : World) (B : Nat) (e : TypeId) (h : B ≤ w.heap.size) : OwnS (w.alloc (.cells #[] e)) B e (.slice (some ⟨w.heap.size, 0, none⟩) 0 0) [] :=
  World.ownsRow_made w #[] 0 h (Nat.zero_le _) rfl

theorem OwnS.base {w : World} {B B' : Nat} {e : TypeId} {v : Value} {ss : List Bs} (h : OwnS w B e v ss) (hB : B' ≤ B) : OwnS w B' e v ss := by
  refine ⟨h.1, ?_⟩
  rcases h.2 with h1 | ⟨g, cap, cur, a1, a2, a3⟩
  · exact .inl h1
  · exact .inr ⟨g, cap, cur, a1, by omega, a3⟩
theorem OwnS.lit1 (w : World) (B : Nat) (e : TypeId) (s : Bs) (h : B ≤ w.heap.size) : OwnS (w.alloc (.cells #[.string ⟨s.toArray⟩] e)) B e (.slice (some ⟨w.heap.size, 0, none⟩) 1 1) [s] :=
  ⟨rfl, .inr ⟨w.heap.size, 1, #[.string ⟨s.toArray⟩], rfl, h, heap_alloc_new w _, Nat.le_refl _, by unfold maxLen; omega, rfl, rfl⟩⟩

def packOutB (L K : Int) (rs : List Bs) : List Bs := if packErr L K rs = 0 then packB K.toNat rs else []
theorem packErr_ok {L K : Int} {rs : List Bs} (hv : vok L K = true) (h : ∀ r ∈ rs, (r.length : Int) ≤ L) : packErr L K rs = 0 ∧ packOutB L K rs = packB K.toNat rs := by
  have h0 : packErr L K rs = 0 := by
    unfold packErr
    rw [if_pos hv, if_pos (List.all_eq_true.2 (fun r hr => by simpa using h r hr))]
  exact ⟨h0, by unfold packOutB; rw [if_pos h0]⟩
theorem packErr_long {L K : Int} {rs : List Bs} (hv : vok L K = true) {k : Nat} {r : Bs} (h : rs[k]? = some r) (hl : L < (r.length : Int)) : packErr L K rs = 2 ∧ packOutB L K rs = [] := by
  have hm : r ∈ rs := List.mem_of_getElem? h
  have h0 : packErr L K rs = 2 := by
    unfold packErr
    rw [if_pos hv, if_neg (fun ha => by have := List.all_eq_true.1 ha r hm; simp only [decide_eq_true_eq] at this; omega)]
  exact ⟨h0, by unfold packOutB; rw [h0]; rfl⟩
theorem packErr_bad {L K : Int} {rs : List Bs} (hv : vok L K = false) : packErr L K rs = 1 ∧ packOutB L K rs = [] := by
  have h0 : packErr L K rs = 1 := by
    unfold packErr
    rw [if_neg (by rw [hv]; simp)]
  exact ⟨h0, by unfold packOutB; rw [h0]; rfl⟩

set_option maxHeartbeats 400000 in
theorem pack13_bad (L K : Int) (A : Option Addr) (n c : Nat) (w : World) (hv : vok L K = false) :
    Calls Try.prog 13 #[.int .i64 L, .int .i64 K, .slice A n c] w fun e w' => e = .returned (.tuple #[.slice none 0 0, .int .i64 1]) ∧ Below w.heap.size w w' := by
  have HV := Lib.hid hv
  clear hv
  go_enter Try.func13, Try.ntmps13
  go_wp2_with (go_at_call 15; refine (valid15 _ _ _).mono ?_; rintro e w' ⟨rfl, rfl⟩; rw [HV.out])
  go_ret2
  exact ⟨rfl, Below.refl _ _⟩

/-- What the call is to leave. -/
def Packed13 (L K : Int) (rs : List Bs) (w : World) (e : Ending) (w' : World) : Prop :=
  ∃ v, e = .returned (.tuple #[v, .int .i64 (packErr L K rs)]) ∧ OwnS w' w.heap.size 9 v (packOutB L K rs) ∧ Below w.heap.size w w'

set_option maxRecDepth 100000 in
set_option maxHeartbeats 4000000 in
theorem pack13_ok (L K : Nat) (A : Option Addr) (n c : Nat) (rs : List Bs) (w : World) (hL : 1 ≤ L ∧ L ≤ 1000) (hK : L + 8 ≤ K ∧ K ≤ 1024) (h : StrsAt w A n rs) (hn : n ≤ 40) :
    Calls Try.prog 13 #[.int .i64 L, .int .i64 K, .slice A n c] w (Packed13 L K rs w) := by
  have hv : vok (L : Int) (K : Int) = true := by unfold vok; simp; omega
  have HV := Lib.hid hv
  have H := Lib.hid h
  clear hv h
  obtain ⟨i0, hi0, hz0, hz1, hz2⟩ := info_parts info9
  have HI := Lib.hid hi0
  have HZ0 := Lib.hid hz0
  have HZ1 := Lib.hid hz1
  have HZ2 := Lib.hid hz2
  clear hi0 hz0 hz1 hz2
  go_enter Try.func13, Try.ntmps13
  go_wp2_with (go_at_call 15; refine (valid15 _ _ _).mono ?_; rintro e w' ⟨rfl, rfl⟩; rw [HV.out])
  go_loopw [8, 9, 10] (fun out last i wr => ∃ (j : Nat) (o l : List Bs), j ≤ n ∧ i = .int .i64 j ∧ Hid (stB K rs j = (o, l)) ∧ OwnS wr w.heap.size 9 out o ∧ OwnS wr w.heap.size 9 last l ∧ Hid (out.ownBlock = none ∨ out.ownBlock ≠ last.ownBlock) ∧ Below w.heap.size w wr ∧ o.length ≤ j ∧ l.length ≤ j ∧ Hid (∀ x ∈ l, x.length ≤ L) ∧ Hid (∀ i x, i < j → rs[i]? = some x → x.length ≤ L)) (fun _ _ i _ => n - (intOf i).toNat)
  case atStart =>
    have h2 := OwnS.empty (w.alloc (.cells #[] 9)) w.heap.size 9 (by simp)
    simp only [World.size_alloc] at h2
    refine ⟨0, [], [], Nat.zero_le _, rfl, rfl, (OwnS.empty _ _ _ (Nat.le_refl _)).alloc _, h2, .inr (by simp [Value.ownBlock]), below_alloc (below_alloc (Below.refl _ _) _) _, Nat.le_refl _, Nat.le_refl _, (fun x hx => by cases hx), fun i x hi => absurd hi (by omega)⟩
  case round =>
    obtain ⟨j, o, l, hj, rfl, hst, hown, hlast, hne, hbw, hl1, hl2, hlx, hall⟩ := hrel
    obtain ⟨A9, n9, c9, rfl, hs9, hm9, hn9⟩ := hlast.strs
    have HS9 := Lib.hid hs9
    have HN9 := Lib.hid hn9
    have hn9' : n9 ≤ 40 := by omega
    clear hs9 hn9
    by_cases hlt2 : j < n
    · obtain ⟨b, off, s, rfl, hs, hc0⟩ := H.out.at_ hlt2
      have lb := World.block_lt_of_cell? w _ hc0
      have HC0 := Lib.hid hc0
      have hc : wr.cell? ⟨b, off + j, none⟩ = some (.string ⟨s.toArray⟩) := (hbw.cell (p := ⟨b, off + j, none⟩) lb).trans hc0
      have HS := Lib.hid hs
      clear hs hc0
      by_cases hgt : L < s.length
      · go_wp2
        go_ret2
        obtain ⟨e1, e2⟩ := packErr_long HV.out HS.out (by omega)
        exact ⟨_, by rw [e1]; rfl, by rw [e2]; exact OwnS.nil _ _ _, hbw⟩
      have hsl : s.length ≤ L := by omega
      have hdf : decide (L < s.length) = false := by simpa using hsl
      clear hgt
      go_wp2_with fail
      have hwrs := hbw.size
      refine wp_region_drawn 6 8 (by kernel_rfl) (by kernel_rfl) (fun w1 w2 => Below w1.heap.size w1 w2) (fun w1 => Below wr.heap.size wr w1)
        (fun i v w1 => match i with
          | 0 => ∃ g, v = .slice (some ⟨g, 0, none⟩) 0 0 ∧ wr.heap.size ≤ g ∧ w1.heap[g]? = some (.cells #[] 9 (0, 0))
          | 1 => v = .slice A9 n9 c9
          | 2 => OwnS w1 wr.heap.size 9 v l
          | 3 => v = .slice (some ⟨b, off, none⟩) n c
          | 4 => v = .int .i64 j
          | 5 => v = .pointer (some ⟨b, off + j, none⟩)
          | 6 => v = .string ⟨s.toArray⟩
          | 7 => ∃ g, v = .slice (some ⟨g, 0, none⟩) 1 1 ∧ w1.cell? ⟨g, 0, none⟩ = some (.string ⟨s.toArray⟩)
          | _ => True) (fun _ _ => below_then) ?_ ((Below.refl _ _).drew) ?_ ?_
      · intro i v w1 w2 hf hR
        match i, hf with
        | 0, hf =>
          obtain ⟨g, h1, h2, h3⟩ := hf
          exact ⟨g, h1, h2, by rw [hR.block g (Array.getElem?_eq_some_iff.1 h3).1]; exact h3⟩
        | 1, hf => exact hf
        | 2, hf => exact OwnS.below hf hR
        | 3, hf => exact hf
        | 4, hf => exact hf
        | 5, hf => exact hf
        | 6, hf => exact hf
        | 7, hf =>
          obtain ⟨g, h1, h2⟩ := hf
          exact ⟨g, h1, by rw [hR.cell (p := ⟨g, 0, none⟩) (World.block_lt_of_cell? w1 _ h2)]; exact h2⟩
        | k + 8, _ => trivial
      · refine allOps_cons ?_ (allOps_cons ?_ (allOps_cons ?_ (allOps_cons ?_ (allOps_cons ?_ (allOps_cons ?_ (allOps_cons ?_ (allOps_cons ?_ allOps_nil)))))))
        · intro u w1 hC hd K hK
          simp only [List.take_succ_cons, List.take_zero, putAll, Act.put, List.setIfInBounds_toArray, List.set_cons_succ, List.set_cons_zero, Nat.zero_add, Nat.reduceAdd] at hK ⊢
          go_simp
          exact hK _ _ (below_alloc (Below.refl _ _) _) ⟨_, rfl, hC.size, heap_alloc_new w1 _⟩
        · intro u w1 hC hd K hK
          simp only [List.take_succ_cons, List.take_zero, putAll, Act.put, List.setIfInBounds_toArray, List.set_cons_succ, List.set_cons_zero, Nat.zero_add, Nat.reduceAdd] at hK ⊢
          go_simp
          exact hK _ _ (Below.refl _ _) rfl
        · intro u w1 hC hd K hK
          obtain ⟨g, h0, hg1, hg2⟩ := hd 0 rfl
          have h1 : u 1 = .slice A9 n9 c9 := hd 1 rfl
          simp only [List.take_succ_cons, List.take_zero, putAll, Act.put, List.setIfInBounds_toArray, List.set_cons_succ, List.set_cons_zero, Nat.zero_add, Nat.reduceAdd] at hK ⊢
          rw [if_pos (show Region.wanted _ _ = true from rfl)]
          refine wp_append_empty w1 (.tmp 31) (.tmp 32) 22 rfl 9 i0 _ 1 16 Try.underlying22 HI.out HZ0.out HZ1.out HZ2.out rfl (by omega) g wr.heap.size h0 hg1 hg2 A9 n9 c9 _ h1 ((HS9.out.below hC).cells) (strs_oneCell l) hm9 (by omega) ?_
          intro v' w2 hown2 hb2
          refine hK v' w2 hb2 ?_
          rw [HN9.out] at hown2
          exact hown2
        · intro u w1 hC hd K hK
          simp only [List.take_succ_cons, List.take_zero, putAll, Act.put, List.setIfInBounds_toArray, List.set_cons_succ, List.set_cons_zero, Nat.zero_add, Nat.reduceAdd] at hK ⊢
          go_simp
          exact hK _ _ (Below.refl _ _) rfl
        · intro u w1 hC hd K hK
          simp only [List.take_succ_cons, List.take_zero, putAll, Act.put, List.setIfInBounds_toArray, List.set_cons_succ, List.set_cons_zero, Nat.zero_add, Nat.reduceAdd] at hK ⊢
          go_simp
          exact hK _ _ (Below.refl _ _) rfl
        · intro u w1 hC hd K hK
          have h3 : u 3 = .slice (some ⟨b, off, none⟩) n c := hd 3 rfl
          have h4 : u 4 = .int .i64 j := hd 4 rfl
          simp only [List.take_succ_cons, List.take_zero, putAll, Act.put, List.setIfInBounds_toArray, List.set_cons_succ, List.set_cons_zero, Nat.zero_add, Nat.reduceAdd, h3, h4] at hK ⊢
          go_simp
          exact hK _ _ (Below.refl _ _) rfl
        · intro u w1 hC hd K hK
          have h5 : u 5 = .pointer (some ⟨b, off + j, none⟩) := hd 5 rfl
          have hc1 : w1.cell? ⟨b, off + j, none⟩ = some (.string ⟨s.toArray⟩) := by rw [hC.cell (p := ⟨b, off + j, none⟩) (World.block_lt_of_cell? wr _ hc)]; exact hc
          simp only [List.take_succ_cons, List.take_zero, putAll, Act.put, List.setIfInBounds_toArray, List.set_cons_succ, List.set_cons_zero, Nat.zero_add, Nat.reduceAdd, h5] at hK ⊢
          go_simp
          exact hK _ _ (Below.refl _ _) rfl
        · intro u w1 hC hd K hK
          have h6 : u 6 = .string ⟨s.toArray⟩ := hd 6 rfl
          simp only [List.take_succ_cons, List.take_zero, putAll, Act.put, List.setIfInBounds_toArray, List.set_cons_succ, List.set_cons_zero, Nat.zero_add, Nat.reduceAdd, h6] at hK ⊢
          go_simp
          exact hK _ _ (below_alloc (Below.refl _ _) _) ⟨_, rfl, World.cell?_alloc_mark w1 _ 9 (0, 0) 0⟩
      · intro u w1 hC hf
        have f1 : u 1 = .slice A9 n9 c9 := hf 1 (by omega)
        have f2 := hf 2 (by omega)
        obtain ⟨g7, f7, hg7⟩ := hf 7 (by omega)
        simp only [List.take_succ_cons, List.take_zero, List.drop_succ_cons, List.drop_zero, putAll, Act.put, List.setIfInBounds_toArray, List.set_cons_succ, List.set_cons_zero, Nat.zero_add, Nat.reduceAdd]
        refine wpList_append_str rfl (.tmp 33) (.tmp 38) _ rfl wr.heap.size 9 i0 _ Try.underlying22 HI.out HZ0.out HZ1.out HZ2.out rfl _ l rfl f2 s ⟨g7, 0, none⟩ 1 f7 hg7 (by omega) hC.size ?_
        intro v3 w3 hown3 hb3 _ _
        have hb13 : Below wr.heap.size wr w3 := hC.trans hb3
        have hu8 := hown.below hb13
        have hs9 := HS9.out.below hb13
        have hbw3 := below_then_ hbw hb13
        obtain ⟨A3, n3, c3, rfl, hs3, hm3, hn3⟩ := hown3.strs
        have HS3 := Lib.hid hs3
        have HS9' := Lib.hid hs9
        have hn3' : n3 ≤ 41 := by rw [hn3]; simp; omega
        have hxs : ∀ x ∈ l ++ [s], x.length ≤ 1100 := by
          intro x hx
          rcases List.mem_append.1 hx with hx | hx
          · have := hlx.out x hx
            omega
          · simp at hx
            subst hx
            omega
        have HX := Lib.hid hxs
        have hlt13 := hb13.size
        clear f1 f2 f7 hg7 hf hc hC hb3 hs3 hs9 hn3 hxs hb13
        by_cases hlong : K < (block (l ++ [s])).length
        · go_wp2_with fail
          refine (block30 _ _ _ _ _ HS3.out (by omega) HX.out).mono ?_
          rintro e w4 ⟨rfl, hb4⟩
          go_wp2_with fail
          refine (block30 _ _ _ _ _ (HS9'.out.below hb4) (by omega) (fun x hx => HX.out x (by simp [hx]))).mono ?_
          rintro e w5 ⟨rfl, hb5⟩
          have hsz := hbw3.size
          have hsz4 := hb4.size
          have hsz5 := hb5.size
          go_wp2_with (at_builtin; refine wpList_append_str rfl (.tmp 45) (.tmp 48) _ rfl w.heap.size 9 i0 _ Try.underlying22 HI.out HZ0.out HZ1.out HZ2.out rfl _ o rfl (((hu8.below hb4).below hb5).alloc _) (block l) ⟨w5.heap.size, 0, none⟩ 1 rfl (by simp) (by omega) (by simp; omega) ?_; intro v6 w6 hown6 hb6 _ _; have hbw6 := (below_then_ (below_then_ hbw3 hb4) hb5).trans ((below_alloc (Below.refl w5.heap.size w5) (.cells #[.string ⟨(block l).toArray⟩] 9)).mono (by omega)) |>.trans hb6; have hc6 := (hbw6.cell (p := ⟨b, off + j, none⟩) lb).trans HC0.out)
          go_roundw
          case rel =>
            refine ⟨j + 1, o ++ [block l], [s], by omega, by go_num, stB_flush HS.out hst.out hlong, hown6.alloc _, OwnS.lit1 _ _ _ _ hbw6.size, ?_, below_alloc hbw6 _, by simp; omega, by simp, ?_, ?_⟩
            · right
              intro e
              have := hown6.lt w6.heap.size (by rw [e]; rfl)
              omega
            · intro x hx
              simp at hx
              subst hx
              exact hsl
            · intro i x hi hx
              by_cases hij : i = j
              · subst hij
                have := HS.out.symm.trans hx
                simp only [Option.some.injEq] at this
                subst this
                exact hsl
              · exact hall.out i x (by omega) hx
          case measure => simp [intOf]; omega
        · go_wp2_with fail
          refine (block30 _ _ _ _ _ HS3.out (by omega) HX.out).mono ?_
          rintro e w4 ⟨rfl, hb4⟩
          go_wp2_with fail
          go_roundw
          case rel =>
            refine ⟨j + 1, o, l ++ [s], by omega, by go_num, stB_more HS.out hst.out hlong, hu8.below hb4, (hown3.below hb4).base (by omega), ?_, below_then_ hbw3 hb4, by omega, by simp; omega, ?_, ?_⟩
            · by_cases hnn : u8.ownBlock = none
              · exact .inl hnn
              · right
                intro e
                obtain ⟨k, hk⟩ := Option.ne_none_iff_exists'.1 hnn
                have h1 := (hown.lt k hk).2
                have h2 := (hown3.lt k (by rw [← e]; exact hk)).1
                omega
            · intro x hx
              rcases List.mem_append.1 hx with hx | hx
              · exact hlx.out x hx
              · simp at hx
                subst hx
                exact hsl
            · intro i x hi hx
              by_cases hij : i = j
              · subst hij
                have := HS.out.symm.trans hx
                simp only [Option.some.injEq] at this
                subst this
                exact hsl
              · exact hall.out i x (by omega) hx
          case measure => simp [intOf]; omega
    · have hjn : j = n := by omega
      subst hjn
      have hpk := packErr_ok (rs := rs) HV.out (fun r hr => by
        obtain ⟨i, hi⟩ := List.mem_iff_getElem?.1 hr
        have := hall.out i r (by have := (List.getElem?_eq_some_iff.1 hi).1; have := H.out.len; omega) hi
        omega)
      have HP := Lib.hid hpk
      clear hpk
      have HR := Lib.hid (show packB K rs = finB (o, l) from by rw [← hst.out]; exact (stB_all H.out.len).symm)
      by_cases hl0 : l = []
      · have h9 : n9 = 0 := by rw [HN9.out, hl0]; rfl
        have HR2 := Lib.hid (show packB K rs = o from by rw [HR.out]; unfold finB; rw [if_pos hl0])
        clear hl0
        subst h9
        go_wp2
        go_ret2
        exact ⟨_, by rw [HP.out.1]; rfl, by rw [HP.out.2, show (K : Int).toNat = K from rfl, HR2.out]; exact hown, hbw⟩
      · have h9 : 0 < n9 := by rw [HN9.out]; exact List.length_pos_iff.2 hl0
        have HR2 := Lib.hid (show packB K rs = o ++ [block l] from by rw [HR.out]; unfold finB; rw [if_neg hl0])
        have hwrs := hbw.size
        clear hl0
        go_wp2_with (first | (go_at_call 30; refine (block30 _ _ _ _ _ HS9.out (by omega) (fun x hx => by have := hlx.out x hx; omega)).mono ?_; rintro e w5 ⟨rfl, hb5⟩; have hsz5 := hb5.size) | (at_builtin; refine wpList_append_str rfl (.tmp 59) (.tmp 62) _ rfl w.heap.size 9 i0 _ Try.underlying22 HI.out HZ0.out HZ1.out HZ2.out rfl _ o rfl ((hown.below hb5).alloc _) (block l) ⟨w5.heap.size, 0, none⟩ 1 rfl (by simp) (by omega) (by simp; omega) ?_; intro v6 w6 hown6 hb6 _ _))
        go_ret2
        exact ⟨_, by rw [HP.out.1]; rfl, by rw [HP.out.2, show (K : Int).toNat = K from rfl, HR2.out]; exact hown6, ((below_then_ hbw hb5).trans ((below_alloc (Below.refl w5.heap.size w5) _).mono (by omega))).trans hb6⟩

theorem pack13 (L K : Int) (A : Option Addr) (n c : Nat) (rs : List Bs) (w : World) (h : StrsAt w A n rs) (hn : n ≤ 40) :
    Calls Try.prog 13 #[.int .i64 L, .int .i64 K, .slice A n c] w fun e w' => ∃ v, e = .returned (.tuple #[v, .int .i64 (packErr L K rs)]) ∧ OwnS w' w.heap.size 9 v (packOutB L K rs) ∧ Below w.heap.size w w' := by
  by_cases hv : vok L K = true
  · obtain ⟨l, k, rfl, rfl, hl, hk⟩ := vok_nat hv
    exact pack13_ok l k A n c rs w hl hk h hn
  · have hv' : vok L K = false := by simpa using hv
    obtain ⟨e1, e2⟩ := packErr_bad (rs := rs) hv'
    rw [e1, e2]
    exact (pack13_bad L K A n c w hv').mono fun e w' ⟨h1, h2⟩ => ⟨_, h1, OwnS.nil _ _ _, h2⟩

theorem packOut_eq (L K : Int) (rs : List Bs) : packOutB L K rs = packOut L K rs := by
  unfold packOutB packOut
  by_cases h : packErr L K rs = 0
  · rw [if_pos h, if_pos h]
    have hv : vok L K = true := by
      by_cases hv : vok L K = true
      · exact hv
      · rw [(packErr_bad (rs := rs) (by simpa using hv)).1] at h
        cases h
    obtain ⟨l, k, rfl, rfl, hl, hk⟩ := vok_nat hv
    refine (pack_eq hl hk ?_).symm
    intro r hr
    rcases Nat.lt_or_ge l r.length with hlt | hge
    · obtain ⟨i, hi⟩ := List.mem_iff_getElem?.1 hr
      rw [(packErr_long hv hi (by omega)).1] at h
      cases h
    · exact hge
  · rw [if_neg h, if_neg h]

end Go.Proofs.Ytogfdodnfeggfaa
