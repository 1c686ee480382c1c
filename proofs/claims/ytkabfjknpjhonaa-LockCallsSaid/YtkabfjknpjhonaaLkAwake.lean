/- The example of the chapter. -/
import Derived.Test.YtkabfjknpjhonaaLkReqB
import Derived.Test.YtkabfjknpjhonaaLkNew
import Derived.Test.YtkabfjknpjhonaaLkBlockers
import Derived.Test.YtkabfjknpjhonaaLkSame
import Derived.Laws.Pointers
namespace Go.Proofs.Ytkabfjknpjhonaa
open Go.RowKit P16 P46
attribute [local go_sem] ByteArray.mk_append_mk ByteArray.extract_mk mk_index

def hasB (s : St) (u : Int) : Bool := (s.h.any fun l => decide (l.unit = u)) || s.q.any fun l => decide (l.unit = u)
theorem hasB_iff {s : St} {u : Int} : hasB s u = true ↔ Has s u := by
  unfold hasB Has
  simp [List.any_eq_true]
def askN (s : St) (l : Lock) : Option (St × Int) := if blks s.h s.q l = [] then some (⟨s.h ++ [l], s.q⟩, 0) else if hasB s l.unit = true then none else some (⟨s.h, s.q ++ [l]⟩, 15)
theorem ask_of {s : St} {l : Lock} {r : St × Int} (h : askN s l = some r) : P46.ask s l = r := by
  unfold askN at h
  unfold P46.ask
  split at h
  · rename_i hb
    rw [if_pos hb]
    injection h
  · rename_i hb
    rw [if_neg hb]
    split at h
    · cases h
    · rename_i hh
      injection h with h
      rw [if_neg, h]
      intro hr
      obtain ⟨b, hb1, hb2⟩ := reaches_iff.1 hr
      rcases reach_has hb2 with rfl | h'
      · exact blks_ne hb1 rfl
      · exact hh (hasB_iff.2 h')
def requestN (s : St) (l : Lock) : Option (St × Int) :=
  if validL l = false then some (s, 1)
  else if covered s.h l = true then some (s, 0)
  else match idx s.q l.unit with
  | some i => if s.q[i]? = some l then some (s, 15) else askN (cancel s l.unit).1 l
  | none => askN s l
theorem request_of {s : St} {l : Lock} {r : St × Int} (h : requestN s l = some r) : request s l = r := by
  unfold requestN at h
  unfold request
  split at h
  · rename_i h1
    rw [if_pos h1]
    injection h
  · rename_i h1
    rw [if_neg h1]
    split at h
    · rename_i h2
      rw [if_pos h2]
      injection h
    · rename_i h2
      rw [if_neg h2]
      split at h
      · rename_i i hi
        rw [hi]
        dsimp only
        split at h
        · rename_i h3
          rw [if_pos h3]
          injection h
        · rename_i h3
          rw [if_neg h3]
          exact ask_of h
      · rename_i hi
        rw [hi]
        exact ask_of h
abbrev La1 : Lock := ⟨1, 1, ⟨[97], [99], false⟩, false⟩
abbrev Lb1 : Lock := ⟨1, 1, ⟨[98], [98], false⟩, true⟩
abbrev Lb2 : Lock := ⟨2, 1, ⟨[98], [98], false⟩, true⟩
abbrev Lb3 : Lock := ⟨3, 1, ⟨[98], [98], false⟩, false⟩
abbrev Lx2 : Lock := ⟨2, 1, ⟨[120], [120], false⟩, false⟩
abbrev Lx3 : Lock := ⟨3, 1, ⟨[120], [120], false⟩, true⟩
abbrev Ly2 : Lock := ⟨2, 1, ⟨[121], [120], false⟩, true⟩
theorem rq1 : request ⟨[], []⟩ La1 = (⟨[La1], []⟩, 0) := request_of (by rfl)
theorem rq2 : request ⟨[La1], []⟩ Lb2 = (⟨[La1], [Lb2]⟩, 15) := request_of (by rfl)
theorem rq3 : request ⟨[La1], [Lb2]⟩ Lb1 = (⟨[La1, Lb1], [Lb2]⟩, 0) := request_of (by rfl)
theorem rq4 : request ⟨[La1, Lb1], [Lb2]⟩ Lb3 = (⟨[La1, Lb1], [Lb2, Lb3]⟩, 15) := request_of (by rfl)
theorem rq5 : request ⟨[La1, Lb1], [Lb2, Lb3]⟩ Lb2 = (⟨[La1, Lb1], [Lb2, Lb3]⟩, 15) := request_of (by rfl)
theorem rl6 : release ⟨[La1, Lb1], [Lb2, Lb3]⟩ 1 = (⟨[Lb2], [Lb3]⟩, [2]) := by rfl
theorem bl7 : setL (P46.blockers ⟨[Lb2], [Lb3]⟩ 3) = [2] := by rfl
theorem rq8 : request ⟨[Lb2], [Lb3]⟩ Lx2 = (⟨[Lb2, Lx2], [Lb3]⟩, 0) := request_of (by rfl)
theorem rq9 : request ⟨[Lb2, Lx2], [Lb3]⟩ Lx3 = (⟨[Lb2, Lx2], [Lx3]⟩, 15) := request_of (by rfl)
theorem rq10 : request ⟨[Lb2, Lx2], [Lx3]⟩ Ly2 = (⟨[Lb2, Lx2], [Lx3]⟩, 1) := request_of (by rfl)
set_option maxRecDepth 100000 in
theorem lkMk (u : Int) (lo hi : List UInt8) (x : Bool) (w : World) : Calls Try.prog 36 #[.int .i64 u, .string ⟨lo.toArray⟩, .string ⟨hi.toArray⟩, .bool x] w fun e w' => e = .returned (lv ⟨u, 1, ⟨lo, hi, false⟩, x⟩) ∧ Below w.heap.size w w' := by
  go_enter Try.func36, Try.ntmps36
  go_wp2
  exact bodyPost_ret (v := lv ⟨u, 1, ⟨lo, hi, false⟩, x⟩) (by simp [results, Try.results36, go_sem, lv]) rfl ⟨rfl, (Below.refl _ _).alloc (Nat.le_refl _) _⟩
theorem valids_nil' : Valids ⟨[], []⟩ := ⟨(fun l hl => (by cases hl)), (fun l hl => (by cases hl))⟩
theorem g_s1 : P46.Good ⟨[La1], []⟩ := by have := request_good good_nil La1; rw [rq1] at this; exact this
theorem v_s1 : Valids ⟨[La1], []⟩ := by have := request_valids valids_nil' La1; rw [rq1] at this; exact this
theorem g_s2 : P46.Good ⟨[La1], [Lb2]⟩ := by have := request_good g_s1 Lb2; rw [rq2] at this; exact this
theorem v_s2 : Valids ⟨[La1], [Lb2]⟩ := by have := request_valids v_s1 Lb2; rw [rq2] at this; exact this
theorem g_s3 : P46.Good ⟨[La1, Lb1], [Lb2]⟩ := by have := request_good g_s2 Lb1; rw [rq3] at this; exact this
theorem v_s3 : Valids ⟨[La1, Lb1], [Lb2]⟩ := by have := request_valids v_s2 Lb1; rw [rq3] at this; exact this
theorem g_s4 : P46.Good ⟨[La1, Lb1], [Lb2, Lb3]⟩ := by have := request_good g_s3 Lb3; rw [rq4] at this; exact this
theorem v_s4 : Valids ⟨[La1, Lb1], [Lb2, Lb3]⟩ := by have := request_valids v_s3 Lb3; rw [rq4] at this; exact this
theorem g_s6 : P46.Good ⟨[Lb2], [Lb3]⟩ := by have := release_good g_s4 1; rw [rl6] at this; exact this
theorem v_s6 : Valids ⟨[Lb2], [Lb3]⟩ := by have := release_valids v_s4 1; rw [rl6] at this; exact this
theorem g_s8 : P46.Good ⟨[Lb2, Lx2], [Lb3]⟩ := by have := request_good g_s6 Lx2; rw [rq8] at this; exact this
theorem v_s8 : Valids ⟨[Lb2, Lx2], [Lb3]⟩ := by have := request_valids v_s6 Lx2; rw [rq8] at this; exact this
theorem g_s9 : P46.Good ⟨[Lb2, Lx2], [Lx3]⟩ := by have := request_good g_s8 Lx3; rw [rq9] at this; exact this
theorem v_s9 : Valids ⟨[Lb2, Lx2], [Lx3]⟩ := by have := request_valids v_s8 Lx3; rw [rq9] at this; exact this
/-- The example under way. -/
def AW (w wr : World) (p g : Nat) (s : St) : Prop := ∃ vh vq, Mgr wr w.heap.size p s.h s.q vh vq ∧ Blk wr g 32 (la Lb2) ∧ ¬ Foot wr p g ∧ Below w.heap.size w wr
section
variable {w wr w' : World} {p g : Nat} {s : St}
theorem AW.below (h : AW w wr p g s) (hb : Below wr.heap.size wr w') : AW w w' p g s := by
  obtain ⟨vh, vq, hm, hx, hf, hbw⟩ := h
  refine ⟨vh, vq, hm.below hb, hx.below hb, fun hf' => ?_, hbw.trans (hb.mono hbw.size)⟩
  exact hf (hm.foot.2 ((hm.below hb).foot.1 hf'))
theorem AW.moved {s' : St} {vh vq : Value} (h : AW w wr p g s) (hm : Mgr w' w.heap.size p s'.h s'.q vh vq) (hv : Moved p wr w') : AW w w' p g s' := by
  obtain ⟨vh0, vq0, hm0, hx, hf, hbw⟩ := h
  refine ⟨vh, vq, hm, hx.moved hv hf, fun hf' => ?_, hbw.trans (hv.below (B := w.heap.size) (fun k hk => (hm0.ge hk).1) hbw.size)⟩
  rcases hv.foot g hf' with h1 | h1
  · exact hf h1
  · have := hx.lt
    omega
theorem AW.box (h : AW w wr p g s) : Blk wr g 32 (la Lb2) := by
  obtain ⟨vh, vq, hm, hx, hf, hbw⟩ := h
  exact hx
theorem AW.req {s' : St} {l : Lock} {code : Int} (e : request s l = (s', code)) (hg : P46.Good s) (hv : Valids s) (hl : s.h.length + s.q.length < 100000) (h : AW w wr p g s) :
    Calls Try.prog 26 #[.pointer (some ⟨p, 0, none⟩), lv l] wr fun e w' => e = .returned (.int .i64 code) ∧ AW w w' p g s' := by
  obtain ⟨vh, vq, hm, hx, hf, hbw⟩ := id h
  obtain ⟨sh, sq⟩ := s
  refine (lkRequest l w.heap.size p sh sq vh vq wr hm hl hg hv).mono ?_
  rintro e2 w2 ⟨vh2, vq2, rfl, hm2, hv2⟩
  rw [e] at hm2
  rw [e]
  exact ⟨rfl, h.moved hm2 hv2⟩
theorem AW.rel {s' : St} {u : Int} {outs : List Int} (e : release s u = (s', outs)) (hv : Valids s) (hl : s.h.length + s.q.length < 100000) (h : AW w wr p g s) :
    Calls Try.prog 35 #[.pointer (some ⟨p, 0, none⟩), .int .i64 u] wr fun e w' => ∃ v, e = .returned v ∧ OwnI w' wr.heap.size v outs ∧ AW w w' p g s' := by
  obtain ⟨vh, vq, hm, hx, hf, hbw⟩ := id h
  obtain ⟨sh, sq⟩ := s
  refine (lkRelease u w.heap.size p sh sq vh vq wr hm (by simp only at hl; omega) hv).mono ?_
  rintro e2 w2 ⟨v, vh2, vq2, rfl, ho2, hm2, hv2, -⟩
  rw [e] at hm2 ho2
  exact ⟨v, rfl, ho2, h.moved hm2 hv2⟩
theorem AW.blockers {u : Int} {l : List Int} (e : setL (P46.blockers s u) = l) (hv : Valids s) (hl : s.h.length + s.q.length < 100000) (h : AW w wr p g s) :
    Calls Try.prog 15 #[.pointer (some ⟨p, 0, none⟩), .int .i64 u] wr fun e w' => ∃ v, e = .returned v ∧ OwnI w' wr.heap.size v l ∧ AW w w' p g s := by
  obtain ⟨vh, vq, hm, hx, hf, hbw⟩ := id h
  obtain ⟨sh, sq⟩ := s
  refine (lkBlockersFn u w.heap.size p sh sq vh vq wr hm (by simp only at hl; omega) hv).mono ?_
  rintro e2 w2 ⟨v, rfl, ho2, hb2⟩
  rw [e] at ho2
  exact ⟨v, rfl, ho2, h.below hb2⟩
end
set_option maxRecDepth 100000 in
set_option maxHeartbeats 4000000 in
theorem lkAwake (w : World) : Calls Try.prog 11 #[] w fun e w' => e = .returned (.bool true) ∧ Below w.heap.size w w' := by
  have hnp : ∀ (w : World) (p : Option Addr), (binOp .eql 25 (.pointer p) (.pointer none)).run Try.prog w = .ok (.bool (p.isNone)) w := fun w p => by cases p <;> simp [run_eql_pointer_nil w 25 _ (by kernel_rfl : Try.prog.underlying 25 = some (.pointer (Try.prog.pointee 25)))]
  go_enter Try.func11, Try.ntmps11
  go_wp2_with fail
  refine (lkNew none 0 0 [] w LocksAt.nil (by omega)).mono ?_
  rintro e w1 ⟨p, vh1, rfl, hm1, hb1⟩
  have HM1 := Lib.hid hm1
  have HB1 := Lib.hid hb1
  clear hm1 hb1
  go_wp2_with fail
  refine (lkMk 2 [98] [98] true _).mono ?_
  rintro e w2 ⟨rfl, hb2⟩
  have HM2 := Lib.hid (HM1.out.below hb2)
  have HB2 := Lib.hid (below_then HB1.out hb2)
  clear hb2
  unfold lv
  go_upto_region 6 with (fail)
  obtain ⟨w3, g, e1, e2, hb3, h3⟩ := boxes1 w2 32 #[.int .i64 2, .int .i64 1, .string ⟨#[98]⟩, .string ⟨#[98]⟩, .bool false, .bool true]
  rw [e1, e2]
  have HW := Lib.hid (show AW w w3 p g ⟨[], []⟩ from ⟨_, _, HM2.out.below hb3, h3, fun hf => by
    have h1 := HM2.out.foot.2 ((HM2.out.below hb3).foot.1 hf)
    have := (HM2.out.ge h1).2
    omega, below_then HB2.out hb3⟩)
  clear e1 e2 hb3 h3
  go_wp2_with fail
  refine (lkMk 1 [97] [99] false _).mono ?_
  rintro e wk ⟨rfl, hk⟩
  replace HW := Lib.hid (HW.out.below hk)
  clear hk
  go_wp2_with fail
  refine (AW.req rq1 good_nil valids_nil' (by simp) HW.out).mono ?_
  rintro e wk ⟨rfl, hk⟩
  replace HW := Lib.hid hk
  clear hk
  obtain ⟨a0, a1, a2, a3, a4, a5⟩ := lcells (l := Lb2) HW.out.box
  go_wp2_with fail
  refine (AW.req rq2 g_s1 v_s1 (by simp) HW.out).mono ?_
  rintro e wk ⟨rfl, hk⟩
  replace HW := Lib.hid hk
  clear hk
  clear a0 a1 a2 a3 a4 a5
  go_wp2_with fail
  refine (lkMk 1 [98] [98] true _).mono ?_
  rintro e wk ⟨rfl, hk⟩
  replace HW := Lib.hid (HW.out.below hk)
  clear hk
  go_wp2_with fail
  refine (AW.req rq3 g_s2 v_s2 (by simp) HW.out).mono ?_
  rintro e wk ⟨rfl, hk⟩
  replace HW := Lib.hid hk
  clear hk
  go_wp2_with fail
  refine (lkMk 3 [98] [98] false _).mono ?_
  rintro e wk ⟨rfl, hk⟩
  replace HW := Lib.hid (HW.out.below hk)
  clear hk
  go_wp2_with fail
  refine (AW.req rq4 g_s3 v_s3 (by simp) HW.out).mono ?_
  rintro e wk ⟨rfl, hk⟩
  replace HW := Lib.hid hk
  clear hk
  obtain ⟨a0, a1, a2, a3, a4, a5⟩ := lcells (l := Lb2) HW.out.box
  go_wp2_with fail
  refine (AW.req rq5 g_s4 v_s4 (by simp) HW.out).mono ?_
  rintro e wk ⟨rfl, hk⟩
  replace HW := Lib.hid hk
  clear hk
  clear a0 a1 a2 a3 a4 a5
  go_wp2_with fail
  refine (AW.rel rl6 v_s4 (by simp) HW.out).mono ?_
  rintro e wk ⟨v6, rfl, ho6, hk⟩
  replace HW := Lib.hid hk
  obtain ⟨A6, c6, rfl, hs6, -⟩ := ho6.cells
  obtain ⟨b6, o6, x6, rfl, hx6, hy6⟩ := hs6.at_ (k := 0) (by simp)
  simp at hx6
  subst hx6
  rw [Nat.add_zero] at hy6
  clear ho6 hs6 hk
  go_wp2_with fail
  refine (AW.blockers bl7 v_s6 (by simp) HW.out).mono ?_
  rintro e wk ⟨v7, rfl, ho7, hk⟩
  replace HW := Lib.hid hk
  obtain ⟨A7, c7, rfl, hs7, -⟩ := ho7.cells
  obtain ⟨b7, o7, x7, rfl, hx7, hy7⟩ := hs7.at_ (k := 0) (by simp)
  simp at hx7
  subst hx7
  rw [Nat.add_zero] at hy7
  clear ho7 hs7 hk
  go_wp2_with fail
  refine (lkMk 2 [120] [120] false _).mono ?_
  rintro e wk ⟨rfl, hk⟩
  replace HW := Lib.hid (HW.out.below hk)
  clear hk
  go_wp2_with fail
  refine (AW.req rq8 g_s6 v_s6 (by simp) HW.out).mono ?_
  rintro e wk ⟨rfl, hk⟩
  replace HW := Lib.hid hk
  clear hk
  go_wp2_with fail
  refine (lkMk 3 [120] [120] true _).mono ?_
  rintro e wk ⟨rfl, hk⟩
  replace HW := Lib.hid (HW.out.below hk)
  clear hk
  go_wp2_with fail
  refine (AW.req rq9 g_s8 v_s8 (by simp) HW.out).mono ?_
  rintro e wk ⟨rfl, hk⟩
  replace HW := Lib.hid hk
  clear hk
  go_wp2_with fail
  refine (lkMk 2 [121] [120] true _).mono ?_
  rintro e wk ⟨rfl, hk⟩
  replace HW := Lib.hid (HW.out.below hk)
  clear hk
  go_wp2_with fail
  refine (AW.req rq10 g_s9 v_s9 (by simp) HW.out).mono ?_
  rintro e wk ⟨rfl, hk⟩
  replace HW := Lib.hid hk
  clear hk
  go_wp2
  go_ret
  obtain ⟨vh, vq, hm, hx, hf, hbw⟩ := HW.out
  exact ⟨rfl, hbw⟩
end Go.Proofs.Ytkabfjknpjhonaa
