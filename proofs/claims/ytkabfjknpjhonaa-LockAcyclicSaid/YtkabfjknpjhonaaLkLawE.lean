/- The walk of LockEnds: units that do not wait are released again and again; nothing is held at last. -/
import Derived.Test.YtkabfjknpjhonaaLkUnits
import Derived.Test.YtkabfjknpjhonaaLkLawC
namespace Go.Proofs.Ytkabfjknpjhonaa
open Go.RowKit P16 P46
attribute [local go_sem] ByteArray.mk_append_mk ByteArray.extract_mk mk_index

theorem grantGo_has {h pre rest : List Lock} {out : List Int} {v : Int} (hv : Has (grantGo h pre rest out).1 v) : (∃ l ∈ h, l.unit = v) ∨ ∃ l ∈ pre ++ rest, l.unit = v := by
  obtain ⟨g1, g2, _⟩ := grantGo_sub rest h pre out
  rcases hv with ⟨l, hl, rfl⟩ | ⟨l, hl, rfl⟩
  · rcases g2 l hl with h1 | h1
    · exact .inl ⟨l, h1, rfl⟩
    · exact .inr ⟨l, by simp [h1], rfl⟩
  · exact .inr ⟨l, g1 l hl, rfl⟩
theorem cancel_has {s : St} {u v : Int} (hv : Has (P46.cancel s u).1 v) : Has s v := by
  rcases grantGo_has (out := []) (pre := []) hv with ⟨l, hl, rfl⟩ | ⟨l, hl, rfl⟩
  · exact .inl ⟨l, hl, rfl⟩
  · exact .inr ⟨l, (List.mem_filter.1 (by simpa using hl : l ∈ drop s.q u)).1, rfl⟩
theorem ask_has {s : St} {l : Lock} {v : Int} (hv : Has (P46.ask s l).1 v) : Has s v ∨ v = l.unit := by
  unfold P46.ask at hv
  split at hv
  · rcases hv with ⟨y, hy, rfl⟩ | ⟨y, hy, rfl⟩
    · rcases List.mem_append.1 hy with hy | hy
      · exact .inl (.inl ⟨y, hy, rfl⟩)
      · rw [List.mem_singleton.1 hy]; exact .inr rfl
    · exact .inl (.inr ⟨y, hy, rfl⟩)
  · split at hv
    · exact .inl hv
    · rcases hv with ⟨y, hy, rfl⟩ | ⟨y, hy, rfl⟩
      · exact .inl (.inl ⟨y, hy, rfl⟩)
      · rcases List.mem_append.1 hy with hy | hy
        · exact .inl (.inr ⟨y, hy, rfl⟩)
        · rw [List.mem_singleton.1 hy]; exact .inr rfl
theorem request_has {s : St} {l : Lock} {v : Int} (hv : Has (request s l).1 v) : Has s v ∨ v = l.unit := by
  unfold request at hv
  split at hv
  · exact .inl hv
  · split at hv
    · exact .inl hv
    · split at hv
      · split at hv
        · exact .inl hv
        · rcases ask_has hv with h | h
          · exact .inl (cancel_has h)
          · exact .inr h
      · exact ask_has hv
theorem act_has {s : St} {k : Int} {l : Lock} {v : Int} (hv : Has (act s k l).1 v) : Has s v ∨ v = l.unit := by
  unfold act at hv
  split at hv
  · exact .inl (cancel_has hv)
  · split at hv
    · exact .inl (release_has hv).1
    · exact request_has hv
theorem playS_has : ∀ (xs : List ActL) {v : Int}, Has (playS xs) v → v ∈ unitsA xs := by
  have key : ∀ (xs : List ActL) (s : St) {v : Int}, Has (xs.foldl (fun s a => (act s a.kind a.l).1) s) v → Has s v ∨ v ∈ unitsA xs := by
    intro xs
    induction xs with
    | nil => intro s v hv; exact .inl hv
    | cons a xs ih =>
      intro s v hv
      rcases ih _ hv with h | h
      · rcases act_has h with h | rfl
        · exact .inl h
        · exact .inr (by simp [unitsA])
      · exact .inr (by unfold unitsA at h ⊢; rw [List.map_cons]; exact List.mem_cons_of_mem _ h)
  intro xs v hv
  rcases key xs _ hv with h | h
  · rcases h with ⟨l, hl, _⟩ | ⟨l, hl, _⟩ <;> cases hl
  · exact h
theorem ends_succ (us : List Int) : ∀ (k : Nat) (s : St), ends us (k + 1) s = endPass us (ends us k s)
  | 0, _ => rfl
  | k + 1, s => by
    rw [ends, ends_succ us k, ends]
theorem endSteps_inv : ∀ (us : List Int) (s : St), P46.Good s → Valids s → P46.Good (us.foldl endStep s) ∧ Valids (us.foldl endStep s) ∧ (us.foldl endStep s).h.length + (us.foldl endStep s).q.length ≤ s.h.length + s.q.length
  | [], s, hg, hv => ⟨hg, hv, Nat.le_refl _⟩
  | u :: us, s, hg, hv => by
    have hv1 : Valids (endStep s u) := by
      unfold endStep
      split
      · exact release_valids hv u
      · exact hv
    have hl1 : (endStep s u).h.length + (endStep s u).q.length ≤ s.h.length + s.q.length := by
      unfold endStep
      split
      · exact release_len s u
      · exact Nat.le_refl _
    obtain ⟨h1, h2, h3⟩ := endSteps_inv us (endStep s u) (endStep_good hg u) hv1
    exact ⟨h1, h2, Nat.le_trans h3 hl1⟩
theorem ends_inv (us : List Int) : ∀ (k : Nat) (s : St), P46.Good s → Valids s → P46.Good (ends us k s) ∧ Valids (ends us k s) ∧ (ends us k s).h.length + (ends us k s).q.length ≤ s.h.length + s.q.length
  | 0, s, hg, hv => ⟨hg, hv, Nat.le_refl _⟩
  | k + 1, s, hg, hv => by
    obtain ⟨h1, h2, h3⟩ := endSteps_inv us s hg hv
    obtain ⟨h4, h5, h6⟩ := ends_inv us k (endPass us s) h1 h2
    exact ⟨h4, h5, Nat.le_trans h6 h3⟩
theorem endSteps_take {s : St} {us : List Int} {k : Nat} {u : Int} (h : us[k]? = some u) : (us.take (k + 1)).foldl endStep s = endStep ((us.take k).foldl endStep s) u := by
  rw [take_snoc h, List.foldl_append]
  rfl
/-- A manager, and a list of numbers beside it. -/
def EP (W wr : World) (B p C : Nat) (s : St) (v : Value) (us : List Int) : Prop :=
  ∃ vh vq, Mgr wr B p s.h s.q vh vq ∧ OwnI wr C v us ∧ (∀ k, v.ownBlock = some k → ¬ Foot wr p k) ∧ Below B W wr ∧ B ≤ wr.heap.size
section
variable {W wr w' : World} {B p C : Nat} {s s' : St} {v : Value} {us : List Int}
theorem EP.below (k : EP W wr B p C s v us) (hb : Below wr.heap.size wr w') : EP W w' B p C s v us := by
  obtain ⟨vh, vq, hm, h1, a1, hbw, hB⟩ := k
  have mv := Moved.of_below hb hm.box.lt
  exact ⟨vh, vq, hm.below hb, h1.below hb, mv.out (fun k hk => (h1.lt k hk).2) a1, hbw.trans (hb.mono hB), Nat.le_trans hB hb.size⟩
theorem EP.moved {vh vq : Value} (k : EP W wr B p C s v us) (hm' : Mgr w' B p s'.h s'.q vh vq) (mv : Moved p wr w') : EP W w' B p C s' v us := by
  obtain ⟨vh0, vq0, hm, h1, a1, hbw, hB⟩ := k
  exact ⟨vh, vq, hm', h1.moved mv a1, mv.out (fun k hk => (h1.lt k hk).2) a1, hbw.trans (mv.below (B := B) (fun k hk => (hm.ge hk).1) hB), Nat.le_trans hB mv.size⟩
theorem EP.release (k : EP W wr B p C s v us) (u : Int) (hv : Valids s) (hl : s.h.length + s.q.length < 100000) :
    Calls Try.prog 35 #[.pointer (some ⟨p, 0, none⟩), .int .i64 u] wr fun e w' => ∃ x, e = .returned x ∧ EP W w' B p C (P46.release s u).1 v us := by
  obtain ⟨vh, vq, hm, -⟩ := id k
  obtain ⟨sh, sq⟩ := s
  refine (lkRelease u B p sh sq vh vq wr hm (by simp only at hl; omega) hv).mono ?_
  rintro e2 w2 ⟨x, vh2, vq2, rfl, -, hm2, hv2, -⟩
  exact ⟨x, rfl, k.moved hm2 hv2⟩
theorem EP.waits_none (k : EP W wr B p C s v us) {u : Int} (hi : idx s.q u = none) (hl : s.h.length + s.q.length < 100000) :
    Calls Try.prog 16 #[.pointer (some ⟨p, 0, none⟩), .int .i64 u] wr fun e w' => e = .returned (.tuple #[lv zeroL, .bool false]) ∧ Below wr.heap.size wr w' := by
  obtain ⟨vh, vq, hm, -⟩ := k
  exact lkWaits_none u B p s.h s.q vh vq wr hm (by omega) hi
theorem EP.waits_some (k : EP W wr B p C s v us) {u : Int} {i : Nat} (hi : idx s.q u = some i) (hl : s.h.length + s.q.length < 100000) :
    Calls Try.prog 16 #[.pointer (some ⟨p, 0, none⟩), .int .i64 u] wr fun e w' => ∃ l : Lock, e = .returned (.tuple #[lv l, .bool true]) ∧ Below wr.heap.size wr w' := by
  obtain ⟨vh, vq, hm, -⟩ := k
  obtain ⟨l, h1, -⟩ := idx_some hi
  refine (lkWaits_some u B p s.h s.q vh vq wr hm (by omega) i l hi h1).mono ?_
  rintro e w2 ⟨rfl, hb⟩
  exact ⟨l, rfl, hb⟩
end
theorem OwnI.reads2 {w : World} {B : Nat} {A : Option Addr} {n c : Nat} {xs : List Int} (h : OwnI w B (.slice A n c) xs) : IntsAt w A n xs ∧ xs.length = n := by
  obtain ⟨A9, c9, h9, hq9, -⟩ := h.cells
  injection h9 with h91 h92 h93
  subst h91
  exact ⟨by rw [h92]; exact hq9, h92.symm⟩
set_option maxRecDepth 100000 in
set_option maxHeartbeats 4000000 in
theorem lawEnds (A : Option Addr) (n c : Nat) (xs : List ActL) (W : World) (ha : ActsAt W A n xs) (hn : n ≤ maxLen) (_hu : ∀ a ∈ xs, (Lit.int .i64 a.l.unit).wf = true) :
    Calls Try.prog 9 #[.slice A n c] W fun e w' => e = .returned (.bool true) ∧ Below W.heap.size W w' := by
  unfold maxLen at hn
  have HA := Lib.hid ha
  clear ha
  cases hf : fewA xs 50 with
  | false =>
    have HF := Lib.hid hf
    clear hf
    go_enter Try.func9, Try.ntmps9
    go_wp2_with (first | (go_at_call 10; refine (lkFew 50 A n c xs W HA.out hn).mono ?_; rintro e w2 ⟨rfl, hb2⟩; rw [HF.out]; have HB2 := Lib.hid hb2; clear hb2) | (go_at_call 11; refine (lkAwake _).mono ?_; rintro e w3 ⟨rfl, hb3⟩; have HB3 := Lib.hid hb3; clear hb3))
    go_ret
    exact ⟨rfl, below_then HB2.out HB3.out⟩
  | true =>
    have HF := Lib.hid hf
    have hl50 := few_len hf
    rw [HA.out.len] at hl50
    have hnp := ptr_nil
    clear hf
    go_enter Try.func9, Try.ntmps9
    go_wp2_with (go_at_call 10; refine (lkFew 50 A n c xs W HA.out hn).mono ?_; rintro e w2 ⟨rfl, hb2⟩; rw [HF.out]; have HB2 := Lib.hid hb2; clear hb2)
    refine (lkPlay A n c xs _ (HA.out.below HB2.out) (by omega)).mono ?_
    rintro e w3 ⟨p, vh3, vq3, rfl, hm3, hb3⟩
    have HM3 := Lib.hid hm3
    have HB3 := Lib.hid hb3
    have HG := Lib.hid (playS_good xs)
    have HV := Lib.hid (playS_valids xs)
    have HHS := Lib.hid (fun v => @playS_has xs v)
    have hl3 : (playS xs).h.length + (playS xs).q.length ≤ 50 := by
      have h1 := playS_len xs
      have h2 := HA.out.len
      omega
    clear hm3 hb3
    generalize hs0 : playS xs = s at HM3 HG HV HHS hl3
    clear hs0
    go_wp2_with fail
    refine (lkUnits A n c xs _ (HA.out.below (HB2.out.trans (HB3.out.mono HB2.out.size))) (by omega)).mono ?_
    rintro e w4 ⟨v4, rfl, ho4, hb4⟩
    have hk4 : EP w2 w4 w2.heap.size p w3.heap.size s v4 (setL (unitsA xs)) := ⟨vh3, vq3, HM3.out.below hb4, ho4, fun k hk hf => by
      have h1 := (HM3.out.ge (HM3.out.foot.2 ((HM3.out.below hb4).foot.1 hf))).2
      have h2 := (ho4.lt k hk).1
      omega, HB3.out.trans (hb4.mono HB3.out.size), Nat.le_trans HB3.out.size hb4.size⟩
    have HIN := Lib.hid (show ∀ v, Has s v → v ∈ setL (unitsA xs) from fun v hv => ((setL_spec _).2 v).2 (HHS.out v hv))
    have hus50 : (setL (unitsA xs)).length ≤ 50 := by
      have h1 := setL_len (unitsA xs)
      have h2 : (unitsA xs).length = xs.length := List.length_map _
      have h3 := HA.out.len
      omega
    generalize setL (unitsA xs) = us at ho4 hk4 HIN hus50
    obtain ⟨A4, c4, rfl, -, -⟩ := ho4.cells
    obtain ⟨m, hm⟩ : ∃ m, us.length = m := ⟨_, rfl⟩
    rw [hm] at hk4 hus50 ⊢
    have HMM := Lib.hid hm
    have HK4 := Lib.hid hk4
    have HZ := Lib.hid HB2.out.size
    clear hb4 ho4 hk4 hm
    go_upto_region 8 with (fail)
    go_loopw [23] (fun i wr => ∃ k : Nat, k ≤ m ∧ i = .int .i64 k ∧ EP w2 wr w2.heap.size p w3.heap.size (ends us k s) (.slice A4 m c4) us) (fun i _ => m - (intOf i).toNat)
    case atStart => exact ⟨0, Nat.zero_le _, rfl, HK4.out⟩
    case round =>
      obtain ⟨k, hk, rfl, hkp⟩ := hrel
      have HK := Lib.hid hkp
      clear hkp
      have hinv := ends_inv us k s HG.out HV.out
      by_cases hlt : k < m
      · have HES := Lib.hid (ends_succ us k s)
        generalize ends us k s = s1 at HK HES hinv
        have HINV := Lib.hid hinv
        have hl1 : s1.h.length + s1.q.length ≤ 50 := Nat.le_trans hinv.2.2 hl3
        clear hinv
        obtain ⟨wo, hwo⟩ : ∃ wo : World, wo = wr := ⟨_, rfl⟩
        rw [← hwo] at HK ⊢
        clear hwo wr
        go_wp2
        go_loopw [27] (fun i wr => ∃ j : Nat, j ≤ m ∧ i = .int .i64 j ∧ EP w2 wr w2.heap.size p w3.heap.size ((us.take j).foldl endStep s1) (.slice A4 m c4) us) (fun i _ => m - (intOf i).toNat)
        case atStart => exact ⟨0, Nat.zero_le _, rfl, HK.out⟩
        case round =>
          obtain ⟨j, hj, rfl, hkp2⟩ := hrel
          have HK2 := Lib.hid hkp2
          clear hkp2
          by_cases hlt2 : j < m
          · obtain ⟨-, -, -, ho, -⟩ := id HK2.out
            obtain ⟨b, off, u, rfl, hu, u0⟩ := ho.reads2.1.at_ hlt2
            have HU0 := Lib.hid u0
            have HT := Lib.hid (endSteps_take (s := s1) hu)
            have hinv2 := endSteps_inv (us.take j) s1 HINV.out.1 HINV.out.2.1
            generalize (us.take j).foldl endStep s1 = s2 at HK2 HT hinv2
            have HINV2 := Lib.hid hinv2
            have hl2 : s2.h.length + s2.q.length < 100000 := by
              have := hinv2.2.2
              omega
            clear ho hu hinv2
            cases hi : idx s2.q u with
            | none =>
              have HI := Lib.hid hi
              have HES2 := Lib.hid (show endStep s2 u = (release s2 u).1 from by unfold endStep; rw [if_pos hi])
              clear hi
              go_wp2_with fail
              refine (HK2.out.waits_none HI.out hl2).mono ?_
              rintro e w5 ⟨rfl, hb5⟩
              have HK5 := Lib.hid (HK2.out.below hb5)
              clear hb5 u0
              unfold lv
              go_upto_region 14 with (fail)
              obtain ⟨w6, g6, e1, e2, hb6, -⟩ := boxes1 w5 32 (la zeroL)
              unfold la at e1
              rw [e1, e2]
              have HK6 := Lib.hid (HK5.out.below hb6)
              clear e1 e2 hb6
              go_wp2_with fail
              refine (HK6.out.release u HINV2.out.2.1 hl2).mono ?_
              rintro e w7 ⟨x7, rfl, hk7⟩
              have HK7 := Lib.hid hk7
              clear hk7
              go_wp2
              go_roundw
              case rel => exact ⟨j + 1, by omega, by go_num, by rw [HT.out, HES2.out]; exact HK7.out⟩
              case measure => simp [intOf]; omega
            | some i =>
              have HI := Lib.hid hi
              have HES2 := Lib.hid (show endStep s2 u = s2 from by unfold endStep; rw [if_neg (by rw [hi]; simp)])
              clear hi
              go_wp2_with fail
              refine (HK2.out.waits_some HI.out hl2).mono ?_
              rintro e w5 ⟨l, rfl, hb5⟩
              have HK5 := Lib.hid (HK2.out.below hb5)
              clear hb5 u0
              unfold lv
              go_upto_region 13 with (fail)
              obtain ⟨w6, g6, e1, e2, hb6, -⟩ := boxes1 w5 32 (la l)
              unfold la at e1
              rw [e1, e2]
              have HK6 := Lib.hid (HK5.out.below hb6)
              clear e1 e2 hb6
              go_wp2
              go_roundw
              case rel => exact ⟨j + 1, by omega, by go_num, by rw [HT.out, HES2.out]; exact HK6.out⟩
              case measure => simp [intOf]; omega
          · have hjm : j = m := by omega
            subst hjm
            rw [List.take_of_length_le (by rw [HMM.out]; exact Nat.le_refl _)] at HK2
            go_wp2
            go_roundw
            case rel => exact ⟨k + 1, by omega, by go_num, by rw [HES.out]; exact HK2.out⟩
            case measure => simp [intOf]; omega
      · have hkm : k = m := by omega
        subst hkm
        have hnil : (ends us k s).h = [] ∧ (ends us k s).q = [] := by
          have := ends_all HG.out HIN.out
          rw [HMM.out] at this
          exact this
        generalize ends us k s = s1 at HK hnil
        obtain ⟨sh, sq⟩ := s1
        obtain ⟨h1, h2⟩ := hnil
        simp only at h1 h2
        subst h1 h2
        clear hinv
        obtain ⟨vh5, vq5, hm5, -⟩ := id HK.out
        go_wp2_with fail
        refine (lkAll w2.heap.size p [] [] vh5 vq5 _ hm5 (by simp)).mono ?_
        rintro e w6 ⟨v1, v2, rfl, ho1, ho2, -, hb6⟩
        obtain ⟨A5, c5, rfl, -, -⟩ := ho1.cells
        obtain ⟨A6, c6, rfl, -, -⟩ := ho2.cells
        have HK6 := Lib.hid (HK.out.below hb6)
        clear hb6 ho1 ho2 hm5
        simp only [List.length_nil]
        go_wp2_with (go_at_call 11; refine (lkAwake _).mono ?_; rintro e w7 ⟨rfl, hb7⟩; have HK7 := Lib.hid (HK6.out.below hb7); clear hb7)
        go_ret
        obtain ⟨_, _, _, _, _, hbw, _⟩ := HK7.out
        exact ⟨rfl, HB2.out.trans (hbw.mono HZ.out)⟩
end Go.Proofs.Ytkabfjknpjhonaa
