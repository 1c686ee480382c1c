/- run and awake: a table after calls; the chapter's example. -/
import Derived.Test.YtojbddcbnnbklaaGreatDoorClOps
import Derived.Laws.Pointers
namespace Go.Proofs.YtojbddcbnnbklaaGreatDoor
open Go.RowKit P43
attribute [local go_sem] ByteArray.mk_append_mk ByteArray.extract_mk mk_index

theorem ptrT_nil : ∀ (w : World) (p : Option Addr), (binOp .eql 25 (.pointer p) (.pointer none)).run Tryz.prog w = .ok (.bool (p.isNone)) w := fun w p => by
  cases p <;> simp [run_eql_pointer_nil w 25 _ (by kernel_rfl : Tryz.prog.underlying 25 = some (.pointer (Tryz.prog.pointee 25)))]
/-- The numbers of a row of the call's own. -/
theorem OwnI.at_ {w : World} {B : Nat} {v : Value} {xs : List Int} (h : OwnI w B v xs) : ∃ A c, v = .slice A xs.length c ∧ xs.length ≤ maxLen ∧ ∀ k x, xs[k]? = some x → ∃ b, A = some ⟨b, 0, none⟩ ∧ w.cell? ⟨b, k, none⟩ = some (.int .i64 x) := by
  rcases h.2 with ⟨rfl, h0⟩ | ⟨g, cap, cur, rfl, _, _, h1, h2, _⟩
  · have : xs = [] := List.eq_nil_of_length_eq_zero h0
    subst this
    exact ⟨none, 0, rfl, Nat.zero_le _, fun k x hk => by simp at hk⟩
  · refine ⟨_, _, rfl, Nat.le_trans h1 h2, fun k x hk => ⟨g, rfl, ?_⟩⟩
    have hc := World.ownsRow.cells h (g := g) rfl k (.int .i64 x) (by simp [hk])
    rw [Addr.add_lit, Nat.zero_add] at hc
    exact hc
/-- The plain calls. -/
def opsP (xs : List OpM) : List OpL := xs.map (·.p)
theorem opsP_take {xs : List OpM} {k : Nat} {a : OpM} (h : xs[k]? = some a) : opsP (xs.take (k + 1)) = opsP (xs.take k) ++ [a.p] := by
  unfold opsP
  rw [take_snoc h, List.map_append]
  rfl
theorem runP_take {xs : List OpM} {k : Nat} {a : OpM} (h : xs[k]? = some a) : runP validB (opsP (xs.take (k + 1))) = (callP validB (runP validB (opsP (xs.take k))) a.p).1 := by
  rw [opsP_take h, runP_snoc]
theorem short_of {xs : List OpM} (h : xs.all shortO = true) : Short (opsP xs) := by
  intro o ho
  obtain ⟨x, hx, rfl⟩ := List.mem_map.1 ho
  have := List.all_eq_true.1 h x hx
  unfold shortO at this
  simp only [Bool.and_eq_true, decide_eq_true_eq, List.all_eq_true] at this
  exact ⟨by omega, by omega, fun p hp => by have := this.2 p hp; omega⟩
theorem short_take {xs : List OpM} (h : xs.all shortO = true) (k : Nat) : (xs.take k).all shortO = true := by
  rw [List.all_eq_true] at h ⊢
  exact fun x hx => h x (List.mem_of_mem_take hx)
theorem good_ops {xs : List OpM} (h : xs.all shortO = true) : P43.Good (runP validB (opsP xs)) (opsP xs) := good_runAll (short_of h)
theorem Good.lens {t : T} {l : List OpL} (g : P43.Good t l) : t.hs.length + t.ws.length ≤ l.length := by have := g.len; simpa using this
theorem sortN_id {l : List (P43.Nm × Bool)} (h : l.Pairwise fun a b => leN a b = true) : sortN l = l := List.mergeSort_of_pairwise h
abbrev c1 : Cl := ⟨1, [([65], true)]⟩
abbrev c2 : Cl := ⟨2, [([65], false), ([66], true)]⟩
abbrev c3 : Cl := ⟨3, [([66], false)]⟩
theorem v65 : validB [65] = true := by kernel_rfl
theorem v66 : validB [66] = true := by kernel_rfl
theorem aq1 : requestP validB ⟨[], []⟩ 1 [([65], true)] = (⟨[c1], []⟩, true, 0) := by
  have h1 : (decide ((1 : Int) ≤ 1 ∧ (1 : Int) ≤ 1099511627776) && wishB validB [([65], true)]) = true := by simp [wishB, names, v65]
  unfold requestP
  rw [h1, if_neg (by simp), if_neg (by simp [inT, ids]), sortN_id (by simp)]
  rfl
theorem aq2 : requestP validB ⟨[c1], []⟩ 2 [([65], false), ([66], true)] = (⟨[c1], [c2]⟩, false, 0) := by
  have h1 : (decide ((1 : Int) ≤ 2 ∧ (2 : Int) ≤ 1099511627776) && wishB validB [([65], false), ([66], true)]) = true := by simp [wishB, names, v65, v66]
  unfold requestP
  rw [h1, if_neg (by simp), if_neg (by simp [inT, ids]), sortN_id (by simp; decide)]
  rfl
theorem aq3 : requestP validB ⟨[c1], [c2]⟩ 3 [([66], false)] = (⟨[c1], [c2, c3]⟩, false, 0) := by
  have h1 : (decide ((1 : Int) ≤ 3 ∧ (3 : Int) ≤ 1099511627776) && wishB validB [([66], false)]) = true := by simp [wishB, names, v66]
  unfold requestP
  rw [h1, if_neg (by simp), if_neg (by simp [inT, ids]), sortN_id (by simp)]
  rfl
theorem aq4 : releaseP ⟨[c1], [c2, c3]⟩ 2 = (⟨[c1, c3], []⟩, [3], 0) := by rfl
theorem aq5 : heldP ⟨[c1, c3], []⟩ 3 = [([66], false)] := by rfl
theorem gc1 : GoodC c1 := ⟨⟨by simp, by simp [names]⟩, by simp, by simp⟩
theorem gc3 : GoodC c3 := ⟨⟨by simp, by simp [names]⟩, by simp, by simp⟩
theorem NlsAt.lit2 (w : World) (e : TypeId) (p q : P43.Nm × Bool) : NlsAt (w.alloc (.cells #[.string ⟨p.1.toArray⟩, .bool p.2, .string ⟨q.1.toArray⟩, .bool q.2] e)) (some ⟨w.heap.size, 0, none⟩) 2 [p, q] := by
  refine ⟨by rw [ncs_length]; rfl, fun j u hj => ⟨_, _, rfl, ?_⟩⟩
  rw [Nat.zero_add, World.cell?_alloc_mark w _ e (0, 0) j]
  simpa [ncs, nc] using hj
set_option maxRecDepth 100000 in
set_option maxHeartbeats 4000000 in
theorem clAwake (w : World) (hG : GlobM w) : Calls Tryz.prog 4 #[] w fun e w' => e = .returned (.bool true) ∧ Below w.heap.size w w' := by
  have HG := Lib.hid hG
  clear hG
  have hnp := ptrT_nil
  go_enter Tryz.func4, Tryz.ntmps4
  go_wp2_with fail
  refine (clNew w).mono ?_
  rintro e w1 ⟨p, rfl, hm1, hb1⟩
  have HM1 := Lib.hid (show ∃ F, TT w1 w.heap.size p ⟨[], []⟩ F from ⟨_, [], [], _, _, hm1, rfl, fun k => Iff.rfl⟩)
  have HB1 := Lib.hid hb1
  clear hm1 hb1
  go_wp2_with fail
  obtain ⟨F1, hm⟩ := HM1.out
  have hba := below_alloc (Below.refl _ w1) (.cells #[.string ⟨#[65]⟩, .bool true] tNL)
  have hB1 := HB1.out.trans (hba.mono HB1.out.size)
  refine (clRequest w.heap.size p _ F1 1 _ 1 1 [([65], true)] _ (hm.below hba) (HG.out.below hB1) (by simp) (NlsAt.lit1 w1 tNL ([65], true)) (by omega) (by simp)).mono ?_
  rw [aq1]
  rintro e w2 ⟨rfl, F2, hm2, hc2⟩
  have HM2 := Lib.hid hm2
  have HB2 := Lib.hid (hB1.trans (hc2.below (B := w.heap.size) (fun k hk => (hm.ge hk).1) hB1.size))
  clear hm2 hc2 hba hB1 hm
  go_wp2_with fail
  have hba := below_alloc (Below.refl _ w2) (.cells #[.string ⟨#[65]⟩, .bool false, .string ⟨#[66]⟩, .bool true] tNL)
  have hB2 := HB2.out.trans (hba.mono HB2.out.size)
  refine (clRequest w.heap.size p _ F2 2 _ 2 2 [([65], false), ([66], true)] _ (HM2.out.below hba) (HG.out.below hB2) (by simp) (NlsAt.lit2 w2 tNL ([65], false) ([66], true)) (by omega) (by simp)).mono ?_
  rw [aq2]
  rintro e w3 ⟨rfl, F3, hm3, hc3⟩
  have HM3 := Lib.hid hm3
  have HB3 := Lib.hid (hB2.trans (hc3.below (B := w.heap.size) (fun k hk => (HM2.out.ge hk).1) hB2.size))
  clear hm3 hc3 hba hB2
  go_wp2_with fail
  have hba := below_alloc (Below.refl _ w3) (.cells #[.string ⟨#[66]⟩, .bool false] tNL)
  have hB3 := HB3.out.trans (hba.mono HB3.out.size)
  refine (clRequest w.heap.size p _ F3 3 _ 1 1 [([66], false)] _ (HM3.out.below hba) (HG.out.below hB3) (by simp) (NlsAt.lit1 w3 tNL ([66], false)) (by omega) (by simp)).mono ?_
  rw [aq3]
  rintro e w4 ⟨rfl, F4, hm4, hc4⟩
  have HM4 := Lib.hid hm4
  have HB4 := Lib.hid (hB3.trans (hc4.below (B := w.heap.size) (fun k hk => (HM3.out.ge hk).1) hB3.size))
  clear hm4 hc4 hba hB3
  go_wp2_with fail
  refine (clRelease w.heap.size p _ F4 2 w4 HM4.out (by simp)).mono ?_
  rw [aq4]
  rintro e w5 ⟨⟨v, rfl, ho⟩, F5, hm5, hc5⟩
  obtain ⟨A, c, rfl, -, hat⟩ := ho.at_
  obtain ⟨b, rfl, hc0⟩ := hat 0 3 rfl
  have HM5 := Lib.hid hm5
  have HB5 := Lib.hid (HB4.out.trans (hc5.below (B := w.heap.size) (fun k hk => (HM4.out.ge hk).1) HB4.out.size))
  simp only [List.length_singleton] at ho ⊢
  clear hm5 hc5 ho hat
  go_wp2_with fail
  refine (clHeld w.heap.size p _ F5 3 w5 HM5.out (by simp) (by simp [gc1, gc3])).mono ?_
  rw [aq5]
  rintro e w6 ⟨v6, rfl, ho6, hb6⟩
  obtain ⟨A6, c6, rfl, -, -⟩ := ho6.cells
  have HB6 := Lib.hid (HB5.out.trans (hb6.mono HB5.out.size))
  simp only [List.length_singleton] at ho6 ⊢
  clear ho6 hb6
  go_wp2
  go_ret
  exact ⟨rfl, HB6.out⟩
end Go.Proofs.YtojbddcbnnbklaaGreatDoor
