/- The example of the chapter. CouplingClasses: the program's classes are the reference's. -/
import Derived.Test.YtjklhiifjnmedaaCmF
import Derived.Laws.Pointers
import Derived.Test.YtjklhiifjnmedaaCmB
import Derived.Test.YtjklhiifjnmedaaCmG
namespace Go.Proofs.Ytjklhiifjnmedaa
open Go.RowKit Go.Maps P16 P46
attribute [local go_sem] ByteArray.mk_append_mk ByteArray.extract_mk mk_index

def hasB (s : St) (u : Int) : Bool := (s.h.any fun l => decide (l.unit = u)) || s.q.any fun l => decide (l.unit = u)
theorem hasB_iff {s : St} {u : Int} : hasB s u = true ↔ Has s u := by
  unfold hasB Has
  simp [List.any_eq_true]
def askN (s : St) (l : Lock) : Option (St × Int) := if blks s.h s.q l = [] then some (⟨s.h ++ [l], s.q⟩, 0) else if hasB s l.unit = true then none else some (⟨s.h, s.q ++ [l]⟩, 15)
theorem ask_of {s : St} {l : Lock} {r : St × Int} (h : askN s l = some r) : P46.ask s l = r := by
  unfold askN at h
  unfold P46.ask
  split at h
  · rename_i hb
    rw [if_pos hb]
    injection h
  · rename_i hb
    rw [if_neg hb]
    split at h
    · cases h
    · rename_i hh
      injection h with h
      rw [if_neg, h]
      intro hr
      obtain ⟨b, hb1, hb2⟩ := reaches_iff.1 hr
      rcases reach_has hb2 with rfl | h'
      · exact blks_ne hb1 rfl
      · exact hh (hasB_iff.2 h')
def requestN (s : St) (l : Lock) : Option (St × Int) :=
  if validL l = false then some (s, 1)
  else if covered s.h l = true then some (s, 0)
  else match idx s.q l.unit with
  | some i => if s.q[i]? = some l then some (s, 15) else askN (cancel s l.unit).1 l
  | none => askN s l
theorem request_of {s : St} {l : Lock} {r : St × Int} (h : requestN s l = some r) : P46.request s l = r := by
  unfold requestN at h
  unfold P46.request
  split at h
  · rename_i h1
    rw [if_pos h1]
    injection h
  · rename_i h1
    rw [if_neg h1]
    split at h
    · rename_i h2
      rw [if_pos h2]
      injection h
    · rename_i h2
      rw [if_neg h2]
      split at h
      · rename_i i hi
        rw [hi]
        dsimp only
        split at h
        · rename_i h3
          rw [if_pos h3]
          injection h
        · rename_i h3
          rw [if_neg h3]
          exact ask_of h
      · rename_i hi
        rw [hi]
        exact ask_of h
def fRequestN (F : P52.Fs) (l : Lock) : Option (P52.Fs × Int) :=
  if validL l = false ∨ P52.sysOf l.unit = 0 then some (F, 1)
  else if P52.pres F l.unit = false then some (F, 13)
  else if F.lost = true then some (F, 9)
  else match requestN F.s l with
  | some r => some (⟨F.ep, F.cn, r.1, F.lost, if P52.aloneB (F.s.h ++ F.s.q) l (P52.sysOf l.unit) = true then F.fast + 1 else F.fast⟩, r.2)
  | none => none
theorem fRequest_of {F : P52.Fs} {l : Lock} {r : P52.Fs × Int} (h : fRequestN F l = some r) : P52.request F l = r := by
  unfold fRequestN at h
  unfold P52.request
  by_cases h1 : validL l = false ∨ P52.sysOf l.unit = 0
  · rw [if_pos h1] at h ⊢
    exact Option.some.inj h
  · rw [if_neg h1] at h ⊢
    by_cases h2 : P52.pres F l.unit = false
    · rw [if_pos h2] at h ⊢
      exact Option.some.inj h
    · rw [if_neg h2] at h ⊢
      by_cases h3 : F.lost = true
      · rw [if_pos h3] at h ⊢
        exact Option.some.inj h
      · rw [if_neg h3] at h ⊢
        cases hr : requestN F.s l with
        | none =>
          rw [hr] at h
          cases h
        | some q =>
          rw [hr] at h
          rw [request_of hr]
          exact Option.some.inj h
abbrev Ka : Lock := ⟨262145, 200, ⟨[107], [107], false⟩, true⟩
abbrev Kb : Lock := ⟨327681, 200, ⟨[107], [107], false⟩, true⟩
def f1 : P52.Fs := (P52.connect P52.fs0 1 1).1
def f2 : P52.Fs := (P52.connect f1 2 1).1
def f3 : P52.Fs := ⟨f2.ep, f2.cn, ⟨[Ka], []⟩, false, 1⟩
def f4 : P52.Fs := P52.fail f3 1
def f5 : P52.Fs := ⟨f4.ep, f4.cn, ⟨[Ka], [Kb]⟩, false, 1⟩
def f6 : P52.Fs := (P52.free f5 1).1
theorem fr1 : P52.connect P52.fs0 1 1 = (f1, 0) := rfl
theorem fr2 : P52.connect f1 2 1 = (f2, 0) := rfl
theorem fr3 : P52.request f2 Ka = (f3, 0) := fRequest_of (by rfl)
theorem fr5 : P52.request f4 Kb = (f5, 15) := fRequest_of (by rfl)
theorem fr5b : P52.request f5 Ka = (f5, 13) := fRequest_of (by rfl)
theorem fr5c : P52.retained f5 1 = [Ka] := by rfl
theorem fr6 : (P52.free f5 1).2 = [327681] := by rfl
theorem fr7 : (P52.connect f6 1 1).2 = 13 := by rfl
theorem ok1 : P52.Ok f1 0 := P52.ok0.connect 1 1
theorem ok2 : P52.Ok f2 0 := ok1.connect 2 1
theorem ok3 : P52.Ok f3 1 := by have h := ok2.request Ka; rw [fr3] at h; exact h
theorem ok4 : P52.Ok f4 1 := ok3.fail 1
theorem ok5 : P52.Ok f5 2 := by have h := ok4.request Kb; rw [fr5] at h; exact h
/-- The example under way. -/
def FW (w wr : World) (b : Nat) (F : P52.Fs) : Prop := ∃ S, Fac wr w.heap.size b F S ∧ Below w.heap.size w wr
section
variable {w wr w' : World} {b n : Nat} {F G : P52.Fs} {S S' : Nat → Prop} {code : Int}
theorem FW.below (h : FW w wr b F) (hb : Below wr.heap.size wr w') : FW w w' b F := by
  obtain ⟨S, hf, hbw⟩ := h
  exact ⟨S, hf.below hb, hbw.trans (hb.mono hbw.size)⟩
theorem FW.chg (hbw : Below w.heap.size w wr) (hf : Fac wr w.heap.size b F S) (hf' : Fac w' w.heap.size b G S') (c : Chg S S' wr w') : FW w w' b G :=
  ⟨S', hf', hbw.trans (hf.below_ c hbw.size)⟩
theorem FW.req {l : Lock} (h : FW w wr b F) (ok : P52.Ok F n) (hn : n < 90000) (hu : InR l.unit) (e : P52.request F l = (G, code)) :
    Calls Try.prog 17 #[.pointer (some ⟨b, 0, none⟩), lv l] wr fun e w' => e = .returned (.int .i64 code) ∧ FW w w' b G := by
  obtain ⟨S, hf, hbw⟩ := h
  refine (cfRequest l hu _ b F S wr n hf ok hn).mono ?_
  rintro e2 w2 ⟨S', rfl, hf2, hc⟩
  rw [e] at hf2 ⊢
  exact ⟨rfl, FW.chg hbw hf hf2 hc⟩
theorem FW.conn {k ep : Int} (h : FW w wr b F) (e : P52.connect F k ep = (G, code)) :
    Calls Try.prog 12 #[.pointer (some ⟨b, 0, none⟩), .int .i64 k, .int .i64 ep] wr fun e w' => e = .returned (.int .i64 code) ∧ FW w w' b G := by
  obtain ⟨S, hf, hbw⟩ := h
  refine (cfConnect k ep _ b F S wr hf).mono ?_
  rintro e2 w2 ⟨S', rfl, hf2, hc⟩
  rw [e] at hf2 ⊢
  exact ⟨rfl, FW.chg hbw hf hf2 hc⟩
theorem FW.fail {k : Int} (h : FW w wr b F) (ok : P52.Ok F n) (hn : n < 90000) (e : P52.fail F k = G) :
    Calls Try.prog 21 #[.pointer (some ⟨b, 0, none⟩), .int .i64 k] wr fun e w' => e = .returned (.tuple #[]) ∧ FW w w' b G := by
  obtain ⟨S, hf, hbw⟩ := h
  refine (cfFail k _ b F S wr n hf ok hn).mono ?_
  rintro e2 w2 ⟨S', rfl, hf2, hc⟩
  rw [e] at hf2
  exact ⟨rfl, FW.chg hbw hf hf2 hc⟩
theorem FW.free {k : Int} {outs : List Int} (h : FW w wr b F) (ok : P52.Ok F n) (hn : n < 90000) (e : P52.free F k = (G, outs)) :
    Calls Try.prog 23 #[.pointer (some ⟨b, 0, none⟩), .int .i64 k] wr fun e w' => ∃ v, e = .returned v ∧ OwnI w' wr.heap.size v outs ∧ FW w w' b G := by
  obtain ⟨S, hf, hbw⟩ := h
  refine (cfFree k _ b F S wr n hf ok hn).mono ?_
  rintro e2 w2 ⟨v, S', rfl, ho, hf2, hc, -⟩
  rw [e] at hf2 ho
  exact ⟨v, rfl, ho, FW.chg hbw hf hf2 hc⟩
theorem FW.ret {k : Int} {ls : List Lock} (h : FW w wr b F) (ok : P52.Ok F n) (hn : n < 90000) (e : P52.retained F k = ls) :
    Calls Try.prog 22 #[.pointer (some ⟨b, 0, none⟩), .int .i64 k] wr fun e w' => ∃ A c, e = .returned (.slice A ls.length c) ∧ FW w w' b F := by
  obtain ⟨S, hf, hbw⟩ := id h
  refine (cfRetained k _ b F S wr n hf ok hn).mono ?_
  rintro e2 w2 ⟨v, rfl, ho, hb⟩
  obtain ⟨A, c, rfl, -, -⟩ := ho.cells
  rw [e]
  exact ⟨A, c, rfl, h.below hb⟩
theorem FW.fast (h : FW w wr b F) (e : F.fast = code) : Calls Try.prog 20 #[.pointer (some ⟨b, 0, none⟩)] wr fun e w' => e = .returned (.int .i64 code) ∧ FW w w' b F := by
  obtain ⟨S, hf, hbw⟩ := id h
  refine (cfFast _ b F S wr hf).mono ?_
  rintro e2 w2 ⟨rfl, rfl⟩
  rw [e]
  exact ⟨rfl, h⟩
theorem FW.names (h : FW w wr b F) : Calls Try.prog 24 #[.pointer (some ⟨b, 0, none⟩)] wr fun e w' => ∃ nb, e = .returned (.pointer (some ⟨nb, 0, none⟩)) ∧ FW w w' b F := by
  obtain ⟨S, hf, hbw⟩ := id h
  refine (cfNames _ b F S wr hf).mono ?_
  rintro e2 w2 ⟨nb, rfl, rfl⟩
  exact ⟨nb, rfl, h⟩
end
set_option maxRecDepth 100000 in
theorem cfMk (u : Int) (w : World) : Calls Try.prog 19 #[.int .i64 u] w fun e w' => e = .returned (lv ⟨u, 200, ⟨[107], [107], false⟩, true⟩) ∧ Below w.heap.size w w' := by
  go_enter Try.func19, Try.ntmps19
  go_wp2
  exact bodyPost_ret (v := lv ⟨u, 200, ⟨[107], [107], false⟩, true⟩) (by simp [results, Try.results19, go_sem, lv]) rfl ⟨rfl, (Below.refl _ _).alloc (Nat.le_refl _) _⟩
set_option maxRecDepth 100000 in
set_option maxHeartbeats 4000000 in
theorem cfAwake (w : World) : Calls Try.prog 5 #[] w fun e w' => e = .returned (.bool true) ∧ Below w.heap.size w w' := by
  have hnp : ∀ (w : World) (p : Option Addr), (binOp .eql 33 (.pointer p) (.pointer none)).run Try.prog w = .ok (.bool (p.isNone)) w := fun w p => by cases p <;> simp [run_eql_pointer_nil w 33 _ (by kernel_rfl : Try.prog.underlying 33 = some (.pointer (Try.prog.pointee 33)))]
  have hnt : ∀ (w : World) (p : Option Addr), (binOp .neq 49 (.pointer p) (.pointer none)).run Try.prog w = .ok (.bool (p.isSome)) w := fun w p => by cases p <;> simp [run_neq_pointer_nil w 49 _ (by kernel_rfl : Try.prog.underlying 49 = some (.pointer (Try.prog.pointee 49)))]
  go_enter Try.func5, Try.ntmps5
  go_wp2_with fail
  refine (cfNew w).mono ?_
  rintro e w1 ⟨b, S, rfl, hf1, hb1⟩
  have HW := Lib.hid (show FW w w1 b P52.fs0 from ⟨S, hf1, hb1⟩)
  clear hf1 hb1
  go_wp2_with fail
  refine (FW.conn HW.out fr1).mono ?_
  rintro e wk ⟨rfl, hk⟩
  replace HW := Lib.hid hk
  clear hk
  go_wp2_with fail
  refine (FW.conn HW.out fr2).mono ?_
  rintro e wk ⟨rfl, hk⟩
  replace HW := Lib.hid hk
  clear hk
  go_wp2_with fail
  refine (cfMk 262145 _).mono ?_
  rintro e wk ⟨rfl, hk⟩
  replace HW := Lib.hid (HW.out.below hk)
  clear hk
  go_wp2_with fail
  refine (FW.req (n := 0) HW.out ok2 (by decide) (by unfold InR; decide) fr3).mono ?_
  rintro e wk ⟨rfl, hk⟩
  replace HW := Lib.hid hk
  clear hk
  go_wp2_with fail
  refine (FW.fast (code := 1) HW.out rfl).mono ?_
  rintro e wk ⟨rfl, hk⟩
  replace HW := Lib.hid hk
  clear hk
  go_wp2_with fail
  refine (FW.fail (k := 1) (G := f4) HW.out ok3 (by decide) rfl).mono ?_
  rintro e wk ⟨rfl, hk⟩
  replace HW := Lib.hid hk
  clear hk
  go_wp2_with fail
  refine (cfMk 327681 _).mono ?_
  rintro e wk ⟨rfl, hk⟩
  replace HW := Lib.hid (HW.out.below hk)
  clear hk
  go_wp2_with fail
  refine (FW.req (n := 1) HW.out ok4 (by decide) (by unfold InR; decide) fr5).mono ?_
  rintro e wk ⟨rfl, hk⟩
  replace HW := Lib.hid hk
  clear hk
  go_wp2_with fail
  refine (FW.fast (code := 1) HW.out rfl).mono ?_
  rintro e wk ⟨rfl, hk⟩
  replace HW := Lib.hid hk
  clear hk
  go_wp2_with fail
  refine (cfMk 262145 _).mono ?_
  rintro e wk ⟨rfl, hk⟩
  replace HW := Lib.hid (HW.out.below hk)
  clear hk
  go_wp2_with fail
  refine (FW.req (n := 2) HW.out ok5 (by decide) (by unfold InR; decide) fr5b).mono ?_
  rintro e wk ⟨rfl, hk⟩
  replace HW := Lib.hid hk
  clear hk
  go_wp2_with fail
  refine (FW.ret (n := 2) HW.out ok5 (by decide) fr5c).mono ?_
  rintro e wk ⟨A9, c9, rfl, hk⟩
  replace HW := Lib.hid hk
  clear hk
  go_wp2_with fail
  refine (FW.free (n := 2) (k := 1) (G := f6) (outs := [327681]) HW.out ok5 (by decide) (Prod.ext rfl fr6)).mono ?_
  rintro e wk ⟨v6, rfl, ho6, hk⟩
  replace HW := Lib.hid hk
  obtain ⟨A6, c6, rfl, hs6, -⟩ := ho6.cells
  obtain ⟨b6, o6, x6, rfl, hx6, hy6⟩ := hs6.at_ (k := 0) (by simp)
  simp at hx6
  subst hx6
  rw [Nat.add_zero] at hy6
  clear ho6 hs6 hk
  go_wp2_with fail
  refine (FW.names HW.out).mono ?_
  rintro e wk ⟨nb, rfl, hk⟩
  replace HW := Lib.hid hk
  clear hk
  go_wp2_with fail
  refine (FW.conn (G := (P52.connect f6 1 1).1) (code := 13) HW.out (Prod.ext rfl fr7)).mono ?_
  rintro e wk ⟨rfl, hk⟩
  replace HW := Lib.hid hk
  clear hk
  -- HERE
  go_wp2
  go_ret
  obtain ⟨S9, -, hbw⟩ := HW.out
  exact ⟨rfl, hbw⟩
end Go.Proofs.Ytjklhiifjnmedaa
namespace Go.Proofs.Ytjklhiifjnmedaa
open Go.RowKit P16 P46
attribute [local go_sem] ByteArray.mk_append_mk ByteArray.extract_mk mk_index

set_option maxRecDepth 100000 in
set_option maxHeartbeats 4000000 in
theorem lawClasses (l : Lock) (w : World) : Calls Try.prog 3 #[lv l] w fun e w' => e = .returned (.bool true) ∧ Below w.heap.size w w' := by
  have hlenL : (Try.prog.info? 25).map (·.size) = some 6 := by kernel_rfl
  unfold lv
  go_enter Try.func3, Try.ntmps3
  go_upto_region 1 with (fail)
  obtain ⟨w2, g, e1, e2, hb, hx⟩ := boxes1 w 25 (la l)
  unfold la at e1
  rw [e1, e2]
  have HB := Lib.hid hb
  have HX := Lib.hid hx
  obtain ⟨a0, a1, a2, a3, a4, a5⟩ := lcells hx
  clear e1 e2 hb hx
  by_cases hin : (l.r.low.length : Int) ≤ 40 ∧ (l.r.high.length : Int) ≤ 40 ∧ 0 ≤ l.id ∧ l.id ≤ 1099511627776
  · obtain ⟨h1, h2, h3, h4⟩ := hin
    have HLI := Lib.hid (show LockIn l from ⟨h3, h4, by omega⟩)
    go_upto_region 3 with (fail)
    have CL := Lib.hid (show ∀ W, Below w2.heap.size w2 W → Calls Try.prog 7 #[lv l] W fun e w' => ∃ v, e = .returned v ∧ OwnI w' W.heap.size v (P52.classesL l) ∧ Below W.heap.size W w' from fun W _ => cfClasses l HLI.out W)
    have CR := Lib.hid (show ∀ W, Below w2.heap.size w2 W → Calls Try.prog 8 #[lv l] W fun e w' => ∃ v, e = .returned v ∧ OwnI w' W.heap.size v (P52.classesL l) ∧ Below W.heap.size W w' from fun W _ => refClasses l HLI.out W)
    have CA := Lib.hid (show ∀ W, Calls Try.prog 5 #[] W fun e w' => e = .returned (.bool true) ∧ Below W.heap.size W w' from fun W => cfAwake W)
    have HLEN := Lib.hid (show (P52.classesL l).length ≤ 1000000 from Nat.le_trans (classes_len l) (by omega))
    -- FAST(
    go_region_with (first
      | (go_at_call 7; first
        | (refine (CL.out _ (below_drewN (Below.refl _ _) 1)).mono ?_; rintro e wa ⟨va, rfl, hoa, hba⟩; have HB1 := Lib.hid ((below_drewN (Below.refl w2.heap.size w2) 1).trans hba); obtain ⟨Aa, ca, rfl, hsa, -⟩ := hoa.cells; have HOA := Lib.hid hsa; obtain ⟨b0, b1, b2, b3, b4, b5⟩ := lcells (HX.out.below HB1.out); clear hoa hba hsa)
        | (refine (CL.out _ HB1.out).mono ?_; rintro e wb ⟨vb, rfl, hob, hbb⟩; have HB2 := Lib.hid (HB1.out.trans (hbb.mono HB1.out.size)); obtain ⟨Ab, cb, rfl, hsb, -⟩ := hob.cells; have HOB := Lib.hid hsb; have HOA2 := Lib.hid (HOA.out.below hbb); obtain ⟨c0, c1, c2, c3, c4, c5⟩ := lcells (HX.out.below HB2.out); clear hob hbb hsb))
      | (go_at_call 8; first
        | (refine (CR.out _ (below_drewN (Below.refl _ _) 1)).mono ?_; rintro e wa ⟨va, rfl, hoa, hba⟩; have HB1 := Lib.hid ((below_drewN (Below.refl w2.heap.size w2) 1).trans hba); obtain ⟨Aa, ca, rfl, hsa, -⟩ := hoa.cells; have HOA := Lib.hid hsa; obtain ⟨b0, b1, b2, b3, b4, b5⟩ := lcells (HX.out.below HB1.out); clear hoa hba hsa)
        | (refine (CR.out _ HB1.out).mono ?_; rintro e wb ⟨vb, rfl, hob, hbb⟩; have HB2 := Lib.hid (HB1.out.trans (hbb.mono HB1.out.size)); obtain ⟨Ab, cb, rfl, hsb, -⟩ := hob.cells; have HOB := Lib.hid hsb; have HOA2 := Lib.hid (HOA.out.below hbb); obtain ⟨c0, c1, c2, c3, c4, c5⟩ := lcells (HX.out.below HB2.out); clear hob hbb hsb))
      | (go_at_call 6; first
        | (refine (refInts _ _ _ _ _ _ _ _ _ HOA2.out HOB.out HLEN.out).mono ?_; rintro e wc ⟨rfl, hbc⟩; rw [decide_eq_true rfl]; have HB3 := Lib.hid (HB2.out.trans (hbc.mono HB2.out.size)); clear hbc)
        | (refine (refInts _ _ _ _ _ _ _ _ _ HOB.out HOA2.out HLEN.out).mono ?_; rintro e wc ⟨rfl, hbc⟩; rw [decide_eq_true rfl]; have HB3 := Lib.hid (HB2.out.trans (hbc.mono HB2.out.size)); clear hbc))
      | (go_at_call 5; refine (CA.out _).mono ?_; rintro e wd ⟨rfl, hbd⟩; have HB4 := Lib.hid (HB3.out.trans (hbd.mono HB3.out.size)); clear hbd))
    -- HERE
    all_goals
      go_wp2
      go_ret
      exact ⟨rfl, below_then HB.out HB4.out⟩
    -- FAST)
  · have hc : 40 < (l.r.low.length : Int) ∨ ((l.r.low.length : Int) ≤ 40 ∧ 40 < (l.r.high.length : Int)) ∨ ((l.r.low.length : Int) ≤ 40 ∧ (l.r.high.length : Int) ≤ 40 ∧ l.id < 0) ∨ ((l.r.low.length : Int) ≤ 40 ∧ (l.r.high.length : Int) ≤ 40 ∧ 0 ≤ l.id ∧ 1099511627776 < l.id) := by omega
    clear hin
    rcases hc with h1 | ⟨h1, h2⟩ | ⟨h1, h2, h3⟩ | ⟨h1, h2, h3, h4⟩
    all_goals
      go_wp2_with (go_at_call 5; refine (cfAwake _).mono ?_; rintro e wd ⟨rfl, hbd⟩)
      go_ret
      exact ⟨rfl, below_then HB.out hbd⟩
end Go.Proofs.Ytjklhiifjnmedaa
