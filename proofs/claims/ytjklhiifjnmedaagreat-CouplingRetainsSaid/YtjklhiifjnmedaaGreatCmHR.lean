/- The example of the chapter. CouplingRetains: as long as a failed system is not freed, its locks keep others away. -/
import Derived.Test.YtjklhiifjnmedaaGreatCmF
import Derived.Laws.Pointers
import Derived.Test.YtjklhiifjnmedaaGreatCmS
import Derived.Test.YtjklhiifjnmedaaGreatCmR
import Derived.Test.YtjklhiifjnmedaaGreatCmG
namespace Go.Proofs.YtjklhiifjnmedaaGreat
open Go.RowKit Go.Maps P16 P46
attribute [local go_sem] ByteArray.mk_append_mk ByteArray.extract_mk mk_index

def hasB (s : St) (u : Int) : Bool := (s.h.any fun l => decide (l.unit = u)) || s.q.any fun l => decide (l.unit = u)
theorem hasB_iff {s : St} {u : Int} : hasB s u = true ↔ Has s u := by
  unfold hasB Has
  simp [List.any_eq_true]
def askN (s : St) (l : Lock) : Option (St × Int) := if blks s.h s.q l = [] then some (⟨s.h ++ [l], s.q⟩, 0) else if hasB s l.unit = true then none else some (⟨s.h, s.q ++ [l]⟩, 15)
theorem ask_of {s : St} {l : Lock} {r : St × Int} (h : askN s l = some r) : P46.ask s l = r := by
  unfold askN at h
  unfold P46.ask
  split at h
  · rename_i hb
    rw [if_pos hb]
    injection h
  · rename_i hb
    rw [if_neg hb]
    split at h
    · cases h
    · rename_i hh
      injection h with h
      rw [if_neg, h]
      intro hr
      obtain ⟨b, hb1, hb2⟩ := reaches_iff.1 hr
      rcases reach_has hb2 with rfl | h'
      · exact blks_ne hb1 rfl
      · exact hh (hasB_iff.2 h')
def requestN (s : St) (l : Lock) : Option (St × Int) :=
  if validL l = false then some (s, 1)
  else if covered s.h l = true then some (s, 0)
  else match idx s.q l.unit with
  | some i => if s.q[i]? = some l then some (s, 15) else askN (cancel s l.unit).1 l
  | none => askN s l
theorem request_of {s : St} {l : Lock} {r : St × Int} (h : requestN s l = some r) : P46.request s l = r := by
  unfold requestN at h
  unfold P46.request
  split at h
  · rename_i h1
    rw [if_pos h1]
    injection h
  · rename_i h1
    rw [if_neg h1]
    split at h
    · rename_i h2
      rw [if_pos h2]
      injection h
    · rename_i h2
      rw [if_neg h2]
      split at h
      · rename_i i hi
        rw [hi]
        dsimp only
        split at h
        · rename_i h3
          rw [if_pos h3]
          injection h
        · rename_i h3
          rw [if_neg h3]
          exact ask_of h
      · rename_i hi
        rw [hi]
        exact ask_of h
def fRequestN (F : P52.Fs) (l : Lock) : Option (P52.Fs × Int) :=
  if validL l = false ∨ P52.sysOf l.unit = 0 then some (F, 1)
  else if P52.pres F l.unit = false then some (F, 13)
  else if F.lost = true then some (F, 9)
  else match requestN F.s l with
  | some r => some (⟨F.ep, F.cn, r.1, F.lost, if P52.aloneB (F.s.h ++ F.s.q) l (P52.sysOf l.unit) = true then F.fast + 1 else F.fast⟩, r.2)
  | none => none
theorem fRequest_of {F : P52.Fs} {l : Lock} {r : P52.Fs × Int} (h : fRequestN F l = some r) : P52.request F l = r := by
  unfold fRequestN at h
  unfold P52.request
  by_cases h1 : validL l = false ∨ P52.sysOf l.unit = 0
  · rw [if_pos h1] at h ⊢
    exact Option.some.inj h
  · rw [if_neg h1] at h ⊢
    by_cases h2 : P52.pres F l.unit = false
    · rw [if_pos h2] at h ⊢
      exact Option.some.inj h
    · rw [if_neg h2] at h ⊢
      by_cases h3 : F.lost = true
      · rw [if_pos h3] at h ⊢
        exact Option.some.inj h
      · rw [if_neg h3] at h ⊢
        cases hr : requestN F.s l with
        | none =>
          rw [hr] at h
          cases h
        | some q =>
          rw [hr] at h
          rw [request_of hr]
          exact Option.some.inj h
abbrev Ka : Lock := ⟨262145, 200, ⟨[107], [107], false⟩, true⟩
abbrev Kb : Lock := ⟨327681, 200, ⟨[107], [107], false⟩, true⟩
def f1 : P52.Fs := (P52.connect P52.fs0 1 1).1
def f2 : P52.Fs := (P52.connect f1 2 1).1
def f3 : P52.Fs := ⟨f2.ep, f2.cn, ⟨[Ka], []⟩, false, 1⟩
def f4 : P52.Fs := P52.fail f3 1
def f5 : P52.Fs := ⟨f4.ep, f4.cn, ⟨[Ka], [Kb]⟩, false, 1⟩
def f6 : P52.Fs := (P52.free f5 1).1
theorem fr1 : P52.connect P52.fs0 1 1 = (f1, 0) := rfl
theorem fr2 : P52.connect f1 2 1 = (f2, 0) := rfl
theorem fr3 : P52.request f2 Ka = (f3, 0) := fRequest_of (by rfl)
theorem fr5 : P52.request f4 Kb = (f5, 15) := fRequest_of (by rfl)
theorem fr5b : P52.request f5 Ka = (f5, 13) := fRequest_of (by rfl)
theorem fr5c : P52.retained f5 1 = [Ka] := by rfl
theorem fr6 : (P52.free f5 1).2 = [327681] := by rfl
theorem fr7 : (P52.connect f6 1 1).2 = 13 := by rfl
theorem ok1 : P52.Ok f1 0 := P52.ok0.connect 1 1
theorem ok2 : P52.Ok f2 0 := ok1.connect 2 1
theorem ok3 : P52.Ok f3 1 := by have h := ok2.request Ka; rw [fr3] at h; exact h
theorem ok4 : P52.Ok f4 1 := ok3.fail 1
theorem ok5 : P52.Ok f5 2 := by have h := ok4.request Kb; rw [fr5] at h; exact h
/-- The example under way. -/
def FW (w wr : World) (b : Nat) (F : P52.Fs) : Prop := ∃ S, Fac wr w.heap.size b F S ∧ Below w.heap.size w wr
section
variable {w wr w' : World} {b n : Nat} {F G : P52.Fs} {S S' : Nat → Prop} {code : Int}
theorem FW.below (h : FW w wr b F) (hb : Below wr.heap.size wr w') : FW w w' b F := by
  obtain ⟨S, hf, hbw⟩ := h
  exact ⟨S, hf.below hb, hbw.trans (hb.mono hbw.size)⟩
theorem FW.chg (hbw : Below w.heap.size w wr) (hf : Fac wr w.heap.size b F S) (hf' : Fac w' w.heap.size b G S') (c : Chg S S' wr w') : FW w w' b G :=
  ⟨S', hf', hbw.trans (hf.below_ c hbw.size)⟩
theorem FW.req {l : Lock} (h : FW w wr b F) (ok : P52.Ok F n) (hn : n < 90000) (hu : InR l.unit) (e : P52.request F l = (G, code)) :
    Calls Tryz.prog 16 #[.pointer (some ⟨b, 0, none⟩), lv l] wr fun e w' => e = .returned (.int .i64 code) ∧ FW w w' b G := by
  obtain ⟨S, hf, hbw⟩ := h
  refine (cfRequest l hu _ b F S wr n hf ok hn).mono ?_
  rintro e2 w2 ⟨S', rfl, hf2, hc⟩
  rw [e] at hf2 ⊢
  exact ⟨rfl, FW.chg hbw hf hf2 hc⟩
theorem FW.conn {k ep : Int} (h : FW w wr b F) (e : P52.connect F k ep = (G, code)) :
    Calls Tryz.prog 15 #[.pointer (some ⟨b, 0, none⟩), .int .i64 k, .int .i64 ep] wr fun e w' => e = .returned (.int .i64 code) ∧ FW w w' b G := by
  obtain ⟨S, hf, hbw⟩ := h
  refine (cfConnect k ep _ b F S wr hf).mono ?_
  rintro e2 w2 ⟨S', rfl, hf2, hc⟩
  rw [e] at hf2 ⊢
  exact ⟨rfl, FW.chg hbw hf hf2 hc⟩
theorem FW.fail {k : Int} (h : FW w wr b F) (ok : P52.Ok F n) (hn : n < 90000) (e : P52.fail F k = G) :
    Calls Tryz.prog 11 #[.pointer (some ⟨b, 0, none⟩), .int .i64 k] wr fun e w' => e = .returned (.tuple #[]) ∧ FW w w' b G := by
  obtain ⟨S, hf, hbw⟩ := h
  refine (cfFail k _ b F S wr n hf ok hn).mono ?_
  rintro e2 w2 ⟨S', rfl, hf2, hc⟩
  rw [e] at hf2
  exact ⟨rfl, FW.chg hbw hf hf2 hc⟩
theorem FW.free {k : Int} {outs : List Int} (h : FW w wr b F) (ok : P52.Ok F n) (hn : n < 90000) (e : P52.free F k = (G, outs)) :
    Calls Tryz.prog 12 #[.pointer (some ⟨b, 0, none⟩), .int .i64 k] wr fun e w' => ∃ v, e = .returned v ∧ OwnI w' wr.heap.size v outs ∧ FW w w' b G := by
  obtain ⟨S, hf, hbw⟩ := h
  refine (cfFree k _ b F S wr n hf ok hn).mono ?_
  rintro e2 w2 ⟨v, S', rfl, ho, hf2, hc, -⟩
  rw [e] at hf2 ho
  exact ⟨v, rfl, ho, FW.chg hbw hf hf2 hc⟩
theorem FW.ret {k : Int} {ls : List Lock} (h : FW w wr b F) (ok : P52.Ok F n) (hn : n < 90000) (e : P52.retained F k = ls) :
    Calls Tryz.prog 14 #[.pointer (some ⟨b, 0, none⟩), .int .i64 k] wr fun e w' => ∃ A c, e = .returned (.slice A ls.length c) ∧ FW w w' b F := by
  obtain ⟨S, hf, hbw⟩ := id h
  refine (cfRetained k _ b F S wr n hf ok hn).mono ?_
  rintro e2 w2 ⟨v, rfl, ho, hb⟩
  obtain ⟨A, c, rfl, -, -⟩ := ho.cells
  rw [e]
  exact ⟨A, c, rfl, h.below hb⟩
theorem FW.fast (h : FW w wr b F) (e : F.fast = code) : Calls Tryz.prog 32 #[.pointer (some ⟨b, 0, none⟩)] wr fun e w' => e = .returned (.int .i64 code) ∧ FW w w' b F := by
  obtain ⟨S, hf, hbw⟩ := id h
  refine (cfFast _ b F S wr hf).mono ?_
  rintro e2 w2 ⟨rfl, rfl⟩
  rw [e]
  exact ⟨rfl, h⟩
theorem FW.names (h : FW w wr b F) : Calls Tryz.prog 36 #[.pointer (some ⟨b, 0, none⟩)] wr fun e w' => ∃ nb, e = .returned (.pointer (some ⟨nb, 0, none⟩)) ∧ FW w w' b F := by
  obtain ⟨S, hf, hbw⟩ := id h
  refine (cfNames _ b F S wr hf).mono ?_
  rintro e2 w2 ⟨nb, rfl, rfl⟩
  exact ⟨nb, rfl, h⟩
end
set_option maxRecDepth 100000 in
theorem cfMk (u : Int) (w : World) : Calls Tryz.prog 35 #[.int .i64 u] w fun e w' => e = .returned (lv ⟨u, 200, ⟨[107], [107], false⟩, true⟩) ∧ Below w.heap.size w w' := by
  go_enter Tryz.func35, Tryz.ntmps35
  go_wp2
  exact bodyPost_ret (v := lv ⟨u, 200, ⟨[107], [107], false⟩, true⟩) (by simp [results, Tryz.results35, go_sem, lv]) rfl ⟨rfl, (Below.refl _ _).alloc (Nat.le_refl _) _⟩
set_option maxRecDepth 100000 in
set_option maxHeartbeats 4000000 in
theorem cfAwake (w : World) : Calls Tryz.prog 7 #[] w fun e w' => e = .returned (.bool true) ∧ Below w.heap.size w w' := by
  have hnp : ∀ (w : World) (p : Option Addr), (binOp .eql 25 (.pointer p) (.pointer none)).run Tryz.prog w = .ok (.bool (p.isNone)) w := fun w p => by cases p <;> simp [run_eql_pointer_nil w 25 _ (by kernel_rfl : Tryz.prog.underlying 25 = some (.pointer (Tryz.prog.pointee 25)))]
  have hnt : ∀ (w : World) (p : Option Addr), (binOp .neq 71 (.pointer p) (.pointer none)).run Tryz.prog w = .ok (.bool (p.isSome)) w := fun w p => by cases p <;> simp [run_neq_pointer_nil w 71 _ (by kernel_rfl : Tryz.prog.underlying 71 = some (.pointer (Tryz.prog.pointee 71)))]
  go_enter Tryz.func7, Tryz.ntmps7
  go_wp2_with fail
  refine (cfNew w).mono ?_
  rintro e w1 ⟨b, S, rfl, hf1, hb1⟩
  have HW := Lib.hid (show FW w w1 b P52.fs0 from ⟨S, hf1, hb1⟩)
  clear hf1 hb1
  go_wp2_with fail
  refine (FW.conn HW.out fr1).mono ?_
  rintro e wk ⟨rfl, hk⟩
  replace HW := Lib.hid hk
  clear hk
  go_wp2_with fail
  refine (FW.conn HW.out fr2).mono ?_
  rintro e wk ⟨rfl, hk⟩
  replace HW := Lib.hid hk
  clear hk
  go_wp2_with fail
  refine (cfMk 262145 _).mono ?_
  rintro e wk ⟨rfl, hk⟩
  replace HW := Lib.hid (HW.out.below hk)
  clear hk
  go_wp2_with fail
  refine (FW.req (n := 0) HW.out ok2 (by decide) (by unfold InR; decide) fr3).mono ?_
  rintro e wk ⟨rfl, hk⟩
  replace HW := Lib.hid hk
  clear hk
  go_wp2_with fail
  refine (FW.fast (code := 1) HW.out rfl).mono ?_
  rintro e wk ⟨rfl, hk⟩
  replace HW := Lib.hid hk
  clear hk
  go_wp2_with fail
  refine (FW.fail (k := 1) (G := f4) HW.out ok3 (by decide) rfl).mono ?_
  rintro e wk ⟨rfl, hk⟩
  replace HW := Lib.hid hk
  clear hk
  go_wp2_with fail
  refine (cfMk 327681 _).mono ?_
  rintro e wk ⟨rfl, hk⟩
  replace HW := Lib.hid (HW.out.below hk)
  clear hk
  go_wp2_with fail
  refine (FW.req (n := 1) HW.out ok4 (by decide) (by unfold InR; decide) fr5).mono ?_
  rintro e wk ⟨rfl, hk⟩
  replace HW := Lib.hid hk
  clear hk
  go_wp2_with fail
  refine (FW.fast (code := 1) HW.out rfl).mono ?_
  rintro e wk ⟨rfl, hk⟩
  replace HW := Lib.hid hk
  clear hk
  go_wp2_with fail
  refine (cfMk 262145 _).mono ?_
  rintro e wk ⟨rfl, hk⟩
  replace HW := Lib.hid (HW.out.below hk)
  clear hk
  go_wp2_with fail
  refine (FW.req (n := 2) HW.out ok5 (by decide) (by unfold InR; decide) fr5b).mono ?_
  rintro e wk ⟨rfl, hk⟩
  replace HW := Lib.hid hk
  clear hk
  go_wp2_with fail
  refine (FW.ret (n := 2) HW.out ok5 (by decide) fr5c).mono ?_
  rintro e wk ⟨A9, c9, rfl, hk⟩
  replace HW := Lib.hid hk
  clear hk
  go_wp2_with fail
  refine (FW.free (n := 2) (k := 1) (G := f6) (outs := [327681]) HW.out ok5 (by decide) (Prod.ext rfl fr6)).mono ?_
  rintro e wk ⟨v6, rfl, ho6, hk⟩
  replace HW := Lib.hid hk
  obtain ⟨A6, c6, rfl, hs6, -⟩ := ho6.cells
  obtain ⟨b6, o6, x6, rfl, hx6, hy6⟩ := hs6.at_ (k := 0) (by simp)
  simp at hx6
  subst hx6
  rw [Nat.add_zero] at hy6
  clear ho6 hs6 hk
  go_wp2_with fail
  refine (FW.names HW.out).mono ?_
  rintro e wk ⟨nb, rfl, hk⟩
  replace HW := Lib.hid hk
  clear hk
  go_wp2_with fail
  refine (FW.conn (G := (P52.connect f6 1 1).1) (code := 13) HW.out (Prod.ext rfl fr7)).mono ?_
  rintro e wk ⟨rfl, hk⟩
  replace HW := Lib.hid hk
  clear hk
  -- HERE
  go_wp2
  go_ret
  obtain ⟨S9, -, hbw⟩ := HW.out
  exact ⟨rfl, hbw⟩
end Go.Proofs.YtjklhiifjnmedaaGreat
namespace Go.Proofs.YtjklhiifjnmedaaGreat
open Go.RowKit Go.Maps P16 P46
attribute [local go_sem] ByteArray.mk_append_mk ByteArray.extract_mk mk_index

theorem wf_range {u : Int} (h : (Lit.int .i64 u).wf = true) : InR u := by
  simp [Lit.wf] at h
  exact h
theorem few_len {xs : List ActL} {m : Int} (h : fewA xs m = true) : (xs.length : Int) ≤ m := by
  unfold fewA at h
  simp only [Bool.and_eq_true, decide_eq_true_eq] at h
  exact h.1
theorem OwnL.reads52 {w : World} {B : Nat} {e : TypeId} {A : Option Addr} {n c : Nat} {ls : List Lock} (h : OwnL w B e (.slice A n c) ls) : LocksAt w A n ls ∧ ls.length = n := by
  obtain ⟨A', c', hv, hs, -⟩ := h.cells
  injection hv with h1 h2 h3
  subst h1
  rw [← h2] at hs
  exact ⟨hs, h2.symm⟩
/-- A facility under acts. -/
def FA (w wr : World) (B b n : Nat) : Prop := ∃ F S, Fac wr B b F S ∧ P52.Ok F n ∧ P52.Us F ∧ P52.Ep F ∧ Below w.heap.size w wr
set_option maxRecDepth 100000 in
set_option maxHeartbeats 4000000 in
theorem lawRetains (A : Option Addr) (n c : Nat) (xs : List ActL) (sy un : Int) (w : World) (ha : ActsAt w A n xs) (hn : n ≤ maxLen) (hu : ∀ a ∈ xs, ActOk a) (hs0 : 0 ≤ sy) (hs1 : sy < 256) (hu0 : 0 ≤ un) (hu1 : un < 256) :
    Calls Tryz.prog 3 #[.slice A n c, .int .u8 sy, .int .u8 un] w fun e w' => e = .returned (.bool true) ∧ Below w.heap.size w w' := by
  have HA := Lib.hid ha
  have HU := Lib.hid hu
  have HL := Lib.hid ha.len
  clear ha hu
  have hlenA : (Tryz.prog.info? 32).map (·.size) = some 9 := by kernel_rfl
  have hlenL : (Tryz.prog.info? 30).map (·.size) = some 6 := by kernel_rfl
  have hnp : ∀ (w : World) (p : Option Addr), (binOp .eql 25 (.pointer p) (.pointer none)).run Tryz.prog w = .ok (.bool (p.isNone)) w := fun w p => by cases p <;> simp [run_eql_pointer_nil w 25 _ (by kernel_rfl : Tryz.prog.underlying 25 = some (.pointer (Tryz.prog.pointee 25)))]
  cases hf : fewA xs 40 with
  | false =>
    have HF := Lib.hid hf
    clear hf
    go_enter Tryz.func3, Tryz.ntmps3
    go_wp2_with (first | (go_at_call 6; refine (cfFew 40 A n c xs w HA.out hn).mono ?_; rintro e w1 ⟨rfl, hb1⟩; rw [HF.out]; have HB1 := Lib.hid hb1; clear hb1) | (go_at_call 7; refine (cfAwake _).mono ?_; rintro e w2 ⟨rfl, hb2⟩; have HB2 := Lib.hid (below_then HB1.out hb2); clear hb2))
    go_ret
    exact ⟨rfl, HB2.out⟩
  | true =>
    have HF := Lib.hid hf
    have hn40 : n ≤ 40 := by have h := few_len hf; rw [HL.out] at h; omega
    clear hf
    go_enter Tryz.func3, Tryz.ntmps3
    go_wp2_with (first | (go_at_call 6; refine (cfFew 40 A n c xs w HA.out hn).mono ?_; rintro e w1 ⟨rfl, hb1⟩; rw [HF.out]; have HB1 := Lib.hid hb1; clear hb1) | (go_at_call 8; refine (cfNew w1).mono ?_; rintro e w2 ⟨b, S2, rfl, hf2, hb2⟩; have HFA := Lib.hid (show FA w w2 w1.heap.size b 0 from ⟨_, S2, hf2, P52.ok0, P52.us0, P52.ep0, below_then HB1.out hb2⟩); clear hf2 hb2))
    have hz1 := HB1.out.size
    obtain ⟨B, hB⟩ : ∃ B, w1.heap.size = B := ⟨_, rfl⟩
    rw [hB] at HFA hz1
    clear hB
    go_loopw [29] (fun i wr => ∃ k : Nat, k ≤ n ∧ i = .int .i64 k ∧ FA w wr B b k) (fun i _ => n - (intOf i).toNat)
    case atStart => exact ⟨0, Nat.zero_le _, rfl, HFA.out⟩
    case round =>
      obtain ⟨k, hk, rfl, F, S, hf4, ok4, us4, ep4, hbw⟩ := hrel
      have HF4 := Lib.hid hf4
      have OK4 := Lib.hid ok4
      have US4 := Lib.hid us4
      have EP4 := Lib.hid ep4
      have HB := Lib.hid hbw
      clear hf4 ok4 us4 ep4 hbw
      by_cases hlt : k < n
      · have hs := HA.out.below HB.out
        obtain ⟨ba, off, a, rfl, hx⟩ := hs.at_ hlt
        have HR := Lib.hid (hs.row hx)
        have HUA := Lib.hid (wf_range (HU.out a (List.mem_iff_getElem?.2 ⟨k, hx⟩)).1)
        clear hs hx
        go_upto_region 9 with (refine wpList_load_cells rfl 32 (.tmp 31) rfl ⟨ba, off + k * 9, none⟩ rfl _ _ HR.out Tryz.underlying32 rfl hlenA ?_)
        obtain ⟨w4, g4, e1, e2, hb4, h4⟩ := boxes1 wr 32 (aa a)
        unfold aa at e1
        rw [e1, e2]
        have HB4 := Lib.hid (HB.out.trans (hb4.mono HB.out.size))
        have HF5 := Lib.hid (HF4.out.below hb4)
        have HC4 := Lib.hid h4.add
        clear e1 e2 hb4 h4
        go_wp2_with (first | (refine wpList_load_cells rfl 32 (.tmp 9) rfl ⟨g4, 0, none⟩ rfl _ _ HC4.out Tryz.underlying32 rfl hlenA ?_) | (go_at_call 9; refine (cfDo a HUA.out B b F S w4 k HF5.out OK4.out (by omega)).mono ?_; rintro e w5 ⟨v5, S5, rfl, -, hf5, hc5, -⟩; have HF6 := Lib.hid hf5; have HB6 := Lib.hid (HB4.out.trans ((hc5.below (fun x hx => (HF5.out.ge hx).1) (by have h := (HF5.out.ge (S := S) (k := b) (by obtain ⟨p, nb, vh, vq, h1, h2⟩ := HF5.out; exact (h2 b).2 (.inl rfl))); omega)).mono hz1)); clear hf5 hc5))
        go_roundw
        case rel => exact ⟨k + 1, by omega, by go_num, _, S5, HF6.out, OK4.out.act a, US4.out.act a, EP4.out.act a, HB6.out⟩
        case measure => simp [intOf]; omega
      · have hkn : k = n := by omega
        subst hkn
        obtain ⟨lo, hlo⟩ : ∃ lo, F.lost = lo := ⟨_, rfl⟩
        have HLO := Lib.hid hlo
        clear hlo
        have hz2 := HB.out.size
        have hBr : B ≤ wr.heap.size := by
          obtain ⟨p, nb, vh, vq, h1, h2⟩ := HF4.out
          have h3 := h1.base
          have h4 := h1.box.lt
          omega
        cases lo with
        | true =>
          go_wp2_with (first | (go_at_call 10; refine (cfLost B b F S wr HF4.out).mono ?_; rintro e w5 ⟨rfl, rfl⟩; rw [HLO.out]) | (go_at_call 7; refine (cfAwake _).mono ?_; rintro e w6 ⟨rfl, hb6⟩; have HB6 := Lib.hid (below_then_ HB.out hb6 (by omega)); clear hb6))
          go_ret
          exact ⟨rfl, HB6.out⟩
        | false =>
          go_upto_region 15 with (go_at_call 10; refine (cfLost B b F S wr HF4.out).mono ?_; rintro e w5 ⟨rfl, rfl⟩; rw [HLO.out])
          obtain ⟨s, hs⟩ : ∃ s, 1 + sy % 4 = s := ⟨_, rfl⟩
          obtain ⟨o, ho⟩ : ∃ o, 1 + (1 + sy) % 4 = o := ⟨_, rfl⟩
          have hsr : 1 ≤ s ∧ s ≤ 4 := by omega
          have hor : 1 ≤ o ∧ o ≤ 4 := by omega
          have HNE := Lib.hid (show o ≠ s from by omega)
          rw [hs, ho]
          clear hs ho
          have HOS := Lib.hid (okS_iff.2 hsr)
          have HOO := Lib.hid (okS_iff.2 hor)
          have HF3 := Lib.hid (show P52.before F s o = (P52.free (P52.fail (P52.fail F s) o) o).1 from by unfold P52.before; rfl)
          have HEO := Lib.hid (show epochP (P52.before F s o) o = (P52.before F s o).ep o.toNat from by unfold epochP; rw [if_pos HOO.out])
          go_upto_region 16 with (go_at_call 11; refine (cfFail s B b F S _ k HF4.out OK4.out (by omega)).mono ?_; rintro e w5 ⟨S5, rfl, hf5, hc5⟩; have HF5 := Lib.hid hf5; have OK5 := Lib.hid (OK4.out.fail s); have HB5 := Lib.hid (HB.out.trans ((HF4.out.below_ hc5 hBr).mono hz1)); have hB5 := Lib.hid (Nat.le_trans hBr hc5.size); clear hf5 hc5)
          go_upto_region 17 with (go_at_call 11; refine (cfFail o B b _ S5 w5 k HF5.out OK5.out (by omega)).mono ?_; rintro e w6 ⟨S6, rfl, hf6, hc6⟩; have HF6 := Lib.hid hf6; have OK6 := Lib.hid (OK5.out.fail o); have HB6 := Lib.hid (HB5.out.trans ((HF5.out.below_ hc6 hB5.out).mono hz1)); have hB6 := Lib.hid (Nat.le_trans hB5.out hc6.size); clear hf6 hc6)
          go_upto_region 18 with (go_at_call 12; refine (cfFree o B b _ S6 w6 k HF6.out OK6.out (by omega)).mono ?_; rintro e w7 ⟨v7, S7, rfl, -, hf7, hc7, -⟩; rw [← HF3.out] at hf7; have HF7 := Lib.hid hf7; have OK7 := Lib.hid (P52.before_ok (s := s) (o := o) OK4.out); have HB7 := Lib.hid (HB6.out.trans ((HF6.out.below_ hc7 hB6.out).mono hz1)); have hB7 := Lib.hid (Nat.le_trans hB6.out hc7.size); clear hf7 hc7)
          go_upto_region 19 with (go_at_call 13; refine (cfEpoch o B b _ S7 w7 HF7.out).mono ?_; rintro e w8 ⟨rfl, hb8⟩; rw [HEO.out]; have HF8 := Lib.hid (HF7.out.below hb8); have HB8 := Lib.hid (HB7.out.trans (hb8.mono HB7.out.size)); have hB8 := Lib.hid (Nat.le_trans hB7.out hb8.size); clear hb8)
          go_upto_region 20 with (go_at_call 14; refine (cfRetained s B b _ S7 w8 k HF8.out OK7.out (by omega)).mono ?_; rintro e w9 ⟨v9, rfl, ho9, hb9⟩; have HF9 := Lib.hid (HF8.out.below hb9); have HB9 := Lib.hid (HB8.out.trans (hb9.mono HB8.out.size)); have hB9 := Lib.hid (Nat.le_trans hB8.out hb9.size); have HNS := Lib.hid (show ∀ x, v9.ownBlock = some x → ¬ S7 x from fun x hx hsx => (by have h1 := (ho9.lt x hx).1; have h2 := (HF8.out.ge hsx).2; omega)); obtain ⟨A9, c9, rfl, -, -⟩ := ho9.cells; have HO9 := Lib.hid ho9; clear ho9 hb9)
          have HUS := Lib.hid (P52.before_us (s := s) (o := o) US4.out)
          have HQ := Lib.hid (P52.before_q (F := F) (o := o) HOS.out)
          have HLG := Lib.hid (show (P52.before F s o).lost = false from P52.before_lost.trans HLO.out)
          have HEB := (show 0 ≤ (P52.before F s o).ep o.toNat ∧ (P52.before F s o).ep o.toNat ≤ 65535 from by rw [P52.before_ep]; exact EP4.out _)
          generalize P52.before F s o = G at HF9 HO9 HNS OK7 HUS HQ HLG HEB ⊢
          obtain ⟨ep, hep⟩ : ∃ ep, G.ep o.toNat = ep := ⟨_, rfl⟩
          rw [hep] at HEB ⊢
          have HEP := Lib.hid hep
          obtain ⟨K, hK⟩ : ∃ K, P52.retained G s = K := ⟨_, rfl⟩
          obtain ⟨m, hm⟩ : ∃ m, K.length = m := ⟨_, rfl⟩
          have hm40 : m ≤ 40 := by
            have h1 : (P52.retained G s).length ≤ G.s.h.length := List.length_filter_le _ _
            have h2 := OK7.out.len
            rw [hK, hm] at h1
            omega
          rw [hK] at HO9 HNS ⊢
          rw [hm] at HO9 HNS ⊢
          have HKK := Lib.hid hK
          have HMM := Lib.hid hm
          clear hep hK hm HF4 HF5 HF6 HF7 HF8 OK4 OK5 OK6 US4 EP4 HF3 HEO
          by_cases hmax : 65535 ≤ ep
          · go_wp2_with (go_at_call 7; refine (cfAwake _).mono ?_; rintro e wz ⟨rfl, hbz⟩; have HBZ := Lib.hid (below_then_ HB9.out hbz (by have h := HB9.out.size; omega)); clear hbz)
            go_ret
            exact ⟨rfl, HBZ.out⟩
          · obtain ⟨cd, hcd⟩ : ∃ cd, (P52.connect G o (ep + 1)).2 = cd := ⟨_, rfl⟩
            have HCD := Lib.hid hcd
            clear hcd
            by_cases hc0 : cd = 0
            · have b0 : (cd != 0) = false := bne_not hc0
              have HC0 := Lib.hid hc0
              clear hc0
              go_upto_region 22 with (go_at_call 15; refine (cfConnect o (ep + 1) B b G S7 w9 HF9.out).mono ?_; rintro e w10 ⟨S10, rfl, hf10, hc10⟩; rw [HCD.out]; have HF10 := Lib.hid hf10; have HB10 := Lib.hid (HB9.out.trans ((HF9.out.below_ hc10 hB9.out).mono hz1)); have hB10 := Lib.hid (Nat.le_trans hB9.out hc10.size); have HO10 := Lib.hid (show OwnL w10 w8.heap.size 30 (.slice A9 m c9) K from by have h := own_chg HO9.out hc10 HNS.out; exact h); have HNS10 := Lib.hid (show ∀ x, (Value.slice A9 m c9).ownBlock = some x → ¬ S10 x from fun x hx hsx => (hc10.sub x hsx).elim (HNS.out x hx) (fun h => (by have h2 := (HO9.out.lt x hx).2; omega))); clear hf10 hc10)
              have hmx : ep + 1 ≤ 65535 := by omega
              have HRET := Lib.hid (P52.Ret.start (F := G) (k := s) (o := o) (e := ep + 1) (c := 1 + un) HUS.out HOS.out HOO.out HNE.out HLG.out OK7.out.valids HQ.out (by rw [HEP.out]) (by rw [HEP.out]; exact HEB.1) (HCD.out.trans HC0.out) ⟨by omega, by omega⟩)
              rw [HKK.out] at HRET
              have HOKC := Lib.hid (OK7.out.connect o (ep + 1))
              go_upto_region 23 with (fail)
              obtain ⟨mi, hmi⟩ : ∃ mi, ((ep + 1) * 4 + o - 1) * 65536 + 1 + un = mi := ⟨_, rfl⟩
              rw [show ((ep + 1) * 4 + o - 1) * 65536 + (1 + un) = mi from by omega] at HRET
              rw [hmi]
              have HMR := Lib.hid (show InR mi from by unfold InR; omega)
              clear hmi
              go_upto_region 24 with (fail)
              generalize (P52.connect G o (ep + 1)).1 = G2 at HF10 HRET HOKC
              have hB10' := hB10.out
              obtain ⟨w11, hw11⟩ : ∃ w11, w11 = wr := ⟨_, rfl⟩
              subst hw11
              go_loopw [89] (fun i wr => ∃ (j : Nat) (F : P52.Fs) (S : Nat → Prop), j ≤ m ∧ i = .int .i64 j ∧ Fac wr B b F S ∧ P52.Ok F (k + j) ∧ P52.Ret F s o mi K ∧ OwnL wr w8.heap.size 30 (.slice A9 m c9) K ∧ (∀ x, (Value.slice A9 m c9).ownBlock = some x → ¬ S x) ∧ Below w.heap.size w wr ∧ B ≤ wr.heap.size) (fun i _ => m - (intOf i).toNat)
              case atStart => exact ⟨0, G2, S10, Nat.zero_le _, rfl, HF10.out, HOKC.out, HRET.out, HO10.out, HNS10.out, HB10.out, hB10.out⟩
              case round =>
                obtain ⟨j, F5, S5, hj, rfl, hf5, ok5, ret5, ho5, hn5, hb5, hB5⟩ := hrel
                have HF5 := Lib.hid hf5
                have OK5 := Lib.hid ok5
                have RT5 := Lib.hid ret5
                have HO5 := Lib.hid ho5
                have HN5 := Lib.hid hn5
                have HB5 := Lib.hid hb5
                have HBB5 := Lib.hid hB5
                clear hf5 ok5 ret5 ho5 hn5 hb5 hB5
                by_cases hlt2 : j < m
                · have hs5 := HO5.out.reads52.1
                  obtain ⟨bk, off, y, rfl, hy, -⟩ := hs5.at_ hlt2
                  have HRK := Lib.hid (hs5.row hy)
                  have hask := RT5.out.ask (List.mem_iff_getElem?.2 ⟨j, hy⟩)
                  obtain ⟨X, hX⟩ : ∃ X : Lock, X = ⟨mi, y.id, y.r, true⟩ := ⟨_, rfl⟩
                  rw [← hX] at hask
                  have H15 := Lib.hid hask.1
                  have RT6 := Lib.hid hask.2
                  have HXX := Lib.hid hX
                  clear hs5 hy hask hX
                  go_upto_region 26 with (refine wpList_load_cells rfl 30 (.tmp 91) rfl ⟨bk, off + j * 6, none⟩ rfl _ _ HRK.out Tryz.underlying30 rfl hlenL ?_)
                  obtain ⟨w12, g12, e1, e2, hb12, h12⟩ := boxes1 wr 30 (la y)
                  unfold la at e1
                  rw [e1, e2]
                  have hc12 := h12.add
                  unfold la at hc12
                  have HC12 := Lib.hid hc12
                  clear hc12
                  have HB12 := Lib.hid hb12
                  clear e1 e2 hb12 h12
                  go_upto_region 27 with (refine wpList_load_cells rfl 30 (.tmp 17) rfl ⟨g12, 0, none⟩ rfl _ _ HC12.out Tryz.underlying30 rfl hlenL ?_)
                  obtain ⟨w13, g13, e1, e2, hb13, h13⟩ := boxes1 w12 30 (la y)
                  unfold la at e1
                  rw [e1, e2]
                  have HX13 := Lib.hid h13
                  have HB13 := Lib.hid (below_then HB12.out hb13)
                  have HG13 := Lib.hid (show wr.heap.size ≤ g13 from by have h := HB12.out.size; omega)
                  have hc0 := h13.cell 0
                  have hc5 := h13.cell 5
                  have hf0 := h13.frozen 0
                  have hf5 := h13.frozen 5
                  have hlt13 := h13.lt
                  simp [la] at hc0 hc5
                  clear e1 e2 hb13 h13
                  go_upto_region 28 with (fail)
                  have HX14 := Lib.hid (show Blk ((w13.setCell ⟨g13, 0, none⟩ (.int .i64 mi)).setCell ⟨g13, 5, none⟩ (.bool true)) g13 30 (la X) from by rw [HXX.out]; simpa [la] using (HX13.out.put 0 (.int .i64 mi)).put 5 (.bool true))
                  have HB14 := Lib.hid ((HB13.out.setCell (p := ⟨g13, 0, none⟩) HG13.out (.int .i64 mi)).setCell (p := ⟨g13, 5, none⟩) HG13.out (.bool true))
                  clear hc0 hc5 hf0 hf5 hlt13
                  generalize (w13.setCell ⟨g13, 0, none⟩ (.int .i64 mi)).setCell ⟨g13, 5, none⟩ (.bool true) = w14 at HX14 HB14 ⊢
                  have HC14 := Lib.hid HX14.out.add
                  have HF14 := Lib.hid (HF5.out.below HB14.out)
                  have hB14 := Lib.hid (Nat.le_trans HBB5.out HB14.out.size)
                  have HXU := Lib.hid (show InR X.unit from by rw [HXX.out]; exact HMR.out)
                  go_upto_region 29 with (first | (refine wpList_load_cells rfl 30 (.tmp 18) rfl ⟨g13, 0, none⟩ rfl _ _ HC14.out Tryz.underlying30 rfl hlenL ?_) | (go_at_call 16; refine (cfRequest X HXU.out B b F5 S5 w14 (k + j) HF14.out OK5.out (by omega)).mono ?_; rintro e w15 ⟨S15, rfl, hf15, hc15⟩; rw [H15.out]; have HF15 := Lib.hid hf15; have HC15 := Lib.hid hc15; have OK15 := Lib.hid (OK5.out.request X); clear hf15 hc15))
                  have HB15 := Lib.hid ((HB5.out.trans (HB14.out.mono HB5.out.size)).trans ((HF14.out.below_ HC15.out hB14.out).mono hz1))
                  have hB15 := Lib.hid (Nat.le_trans hB14.out HC15.out.size)
                  have HO15 := Lib.hid (show OwnL w15 w8.heap.size 30 (.slice (some ⟨bk, off, none⟩) m c9) K from own_chg (HO5.out.below HB14.out) HC15.out HN5.out)
                  have HN15 := Lib.hid (show ∀ x, (Value.slice (some ⟨bk, off, none⟩) m c9).ownBlock = some x → ¬ S15 x from fun x hx hsx => (HC15.out.sub x hsx).elim (HN5.out x hx) (fun h => (by have h2 := ((HO5.out.below HB14.out).lt x hx).2; omega)))
                  have HKE := Lib.hid RT6.out.kept
                  have hB15' := hB15.out
                  have HML := Lib.hid (show K.length ≤ 1000000 from by rw [HMM.out]; omega)
                  have HFR := Lib.hid (fun W (hW : Below w15.heap.size w15 W) => HO15.out.below hW)
                  go_upto_region 31 with (fail)
                  go_wp2_with (first
                    | (go_at_call 14; refine (cfRetained s B b _ S15 w15 (k + j + 1) HF15.out OK15.out (by omega)).mono ?_; rintro e w16 ⟨v16, rfl, ho16, hb16⟩; rw [HKE.out] at ho16; have HF16 := Lib.hid (HF15.out.below hb16); have HB16 := Lib.hid (HB15.out.trans (hb16.mono HB15.out.size)); have hB16 := Lib.hid (Nat.le_trans hB15.out hb16.size); have HO16 := Lib.hid (HO15.out.below hb16); obtain ⟨A16, c16, rfl, hs16, -⟩ := ho16.cells; rw [HMM.out] at hs16; have HS16 := Lib.hid hs16; rw [HMM.out]; clear ho16 hb16 hs16)
                    | (go_at_call 17; refine (refLocks A16 _ m m c16 c9 K K w16 HS16.out HO16.out.reads52.1 (by omega)).mono ?_; rintro e w17 ⟨rfl, hb17⟩; rw [decide_eq_true rfl]; have HF17 := Lib.hid (HF16.out.below hb17); have HB17 := Lib.hid (HB16.out.trans (hb17.mono HB16.out.size)); have hB17 := Lib.hid (Nat.le_trans hB16.out hb17.size); have HO17 := Lib.hid (HO16.out.below hb17); clear hb17))
                  go_roundw
                  case rel => exact ⟨j + 1, _, S15, by omega, by go_num, HF17.out, OK15.out, RT6.out, HO17.out, HN15.out, HB17.out, hB17.out⟩
                  case measure => simp [intOf]; omega
                · have hjm : j = m := by omega
                  subst hjm
                  have HDONE := Lib.hid (RT5.out.done mi)
                  have OK6 := Lib.hid (OK5.out.cancel mi)
                  have OK7' := Lib.hid (OK6.out.free s)
                  go_upto_region 35 with (go_at_call 18; refine (cfCancel mi B b F5 S5 wr _ HF5.out OK5.out (by omega)).mono ?_; rintro e w12 ⟨v12, S12, rfl, -, hf12, hc12, -⟩; have HF12 := Lib.hid hf12; have HB12 := Lib.hid (HB5.out.trans ((HF5.out.below_ hc12 HBB5.out).mono hz1)); have hB12 := Lib.hid (Nat.le_trans HBB5.out hc12.size); clear hf12 hc12)
                  go_upto_region 36 with (go_at_call 12; refine (cfFree s B b _ S12 w12 _ HF12.out OK6.out (by omega)).mono ?_; rintro e w13 ⟨v13, S13, rfl, -, hf13, hc13, -⟩; have HF13 := Lib.hid hf13; have HB13 := Lib.hid (HB12.out.trans ((HF12.out.below_ hc13 hB12.out).mono hz1)); have hB13 := Lib.hid (Nat.le_trans hB12.out hc13.size); clear hf13 hc13)
                  go_wp2_with (first
                    | (go_at_call 14; refine (cfRetained s B b _ S13 w13 _ HF13.out OK7'.out (by omega)).mono ?_; rintro e w14 ⟨v14, rfl, ho14, hb14⟩; rw [HDONE.out] at ho14; have HB14 := Lib.hid (HB13.out.trans (hb14.mono HB13.out.size)); obtain ⟨A14, c14, rfl, -, -⟩ := ho14.cells; clear ho14 hb14)
                    | (go_at_call 7; refine (cfAwake _).mono ?_; rintro e wz ⟨rfl, hbz⟩; have HBZ := Lib.hid (below_then_ HB14.out hbz (by have h := HB14.out.size; omega)); clear hbz))
                  go_ret
                  exact ⟨rfl, HBZ.out⟩
            · have b0 : (cd != 0) = true := bne_of hc0
              clear hc0
              go_wp2_with (first | (go_at_call 15; refine (cfConnect o (ep + 1) B b G S7 w9 HF9.out).mono ?_; rintro e w10 ⟨S10, rfl, hf10, hc10⟩; rw [HCD.out]; have HB10 := Lib.hid (HB9.out.trans ((HF9.out.below_ hc10 hB9.out).mono hz1)); clear hf10 hc10) | (go_at_call 7; refine (cfAwake _).mono ?_; rintro e wz ⟨rfl, hbz⟩; have HBZ := Lib.hid (below_then_ HB10.out hbz (by have h := HB10.out.size; omega)); clear hbz))
              go_ret
              exact ⟨rfl, HBZ.out⟩
end Go.Proofs.YtjklhiifjnmedaaGreat
