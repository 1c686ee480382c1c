/- The example of the chapter. CouplingCalls: a facility agrees with the reference over all calls. -/
import Derived.Test.YtjklhiifjnmedaaGreatCmE
import Derived.Laws.Pointers
import Derived.Test.YtjklhiifjnmedaaGreatKmG
import Derived.Test.YtjklhiifjnmedaaGreatKmC
import Derived.Test.YtjklhiifjnmedaaGreatCmG
import Derived.Test.YtjklhiifjnmedaaGreatKmH
import Derived.Deep.RegionWith
import Derived.Deep.CutBlock
namespace Go.Proofs.YtjklhiifjnmedaaGreat
open Go.RowKit Go.Maps P16 P46
attribute [local go_sem] ByteArray.mk_append_mk ByteArray.extract_mk mk_index

def hasB (s : St) (u : Int) : Bool := (s.h.any fun l => decide (l.unit = u)) || s.q.any fun l => decide (l.unit = u)
theorem hasB_iff {s : St} {u : Int} : hasB s u = true ↔ Has s u := by
  unfold hasB Has
  simp [List.any_eq_true]
def askN (s : St) (l : Lock) : Option (St × Int) := if blks s.h s.q l = [] then some (⟨s.h ++ [l], s.q⟩, 0) else if hasB s l.unit = true then none else some (⟨s.h, s.q ++ [l]⟩, 15)
theorem ask_of {s : St} {l : Lock} {r : St × Int} (h : askN s l = some r) : P46.ask s l = r := by
  unfold askN at h
  unfold P46.ask
  split at h
  · rename_i hb
    rw [if_pos hb]
    injection h
  · rename_i hb
    rw [if_neg hb]
    split at h
    · cases h
    · rename_i hh
      injection h with h
      rw [if_neg, h]
      intro hr
      obtain ⟨b, hb1, hb2⟩ := reaches_iff.1 hr
      rcases reach_has hb2 with rfl | h'
      · exact blks_ne hb1 rfl
      · exact hh (hasB_iff.2 h')
def requestN (s : St) (l : Lock) : Option (St × Int) :=
  if validL l = false then some (s, 1)
  else if covered s.h l = true then some (s, 0)
  else match idx s.q l.unit with
  | some i => if s.q[i]? = some l then some (s, 15) else askN (cancel s l.unit).1 l
  | none => askN s l
theorem request_of {s : St} {l : Lock} {r : St × Int} (h : requestN s l = some r) : P46.request s l = r := by
  unfold requestN at h
  unfold P46.request
  split at h
  · rename_i h1
    rw [if_pos h1]
    injection h
  · rename_i h1
    rw [if_neg h1]
    split at h
    · rename_i h2
      rw [if_pos h2]
      injection h
    · rename_i h2
      rw [if_neg h2]
      split at h
      · rename_i i hi
        rw [hi]
        dsimp only
        split at h
        · rename_i h3
          rw [if_pos h3]
          injection h
        · rename_i h3
          rw [if_neg h3]
          exact ask_of h
      · rename_i hi
        rw [hi]
        exact ask_of h
def fRequestN (F : P52.Fs) (l : Lock) : Option (P52.Fs × Int) :=
  if validL l = false ∨ P52.sysOf l.unit = 0 then some (F, 1)
  else if P52.pres F l.unit = false then some (F, 13)
  else if F.lost = true then some (F, 9)
  else match requestN F.s l with
  | some r => some (⟨F.ep, F.cn, r.1, F.lost, if P52.aloneB (F.s.h ++ F.s.q) l (P52.sysOf l.unit) = true then F.fast + 1 else F.fast⟩, r.2)
  | none => none
theorem fRequest_of {F : P52.Fs} {l : Lock} {r : P52.Fs × Int} (h : fRequestN F l = some r) : P52.request F l = r := by
  unfold fRequestN at h
  unfold P52.request
  by_cases h1 : validL l = false ∨ P52.sysOf l.unit = 0
  · rw [if_pos h1] at h ⊢
    exact Option.some.inj h
  · rw [if_neg h1] at h ⊢
    by_cases h2 : P52.pres F l.unit = false
    · rw [if_pos h2] at h ⊢
      exact Option.some.inj h
    · rw [if_neg h2] at h ⊢
      by_cases h3 : F.lost = true
      · rw [if_pos h3] at h ⊢
        exact Option.some.inj h
      · rw [if_neg h3] at h ⊢
        cases hr : requestN F.s l with
        | none =>
          rw [hr] at h
          cases h
        | some q =>
          rw [hr] at h
          rw [request_of hr]
          exact Option.some.inj h
abbrev Ka : Lock := ⟨262145, 200, ⟨[107], [107], false⟩, true⟩
abbrev Kb : Lock := ⟨327681, 200, ⟨[107], [107], false⟩, true⟩
def f1 : P52.Fs := (P52.connect P52.fs0 1 1).1
def f2 : P52.Fs := (P52.connect f1 2 1).1
def f3 : P52.Fs := ⟨f2.ep, f2.cn, ⟨[Ka], []⟩, false, 1⟩
def f4 : P52.Fs := P52.fail f3 1
def f5 : P52.Fs := ⟨f4.ep, f4.cn, ⟨[Ka], [Kb]⟩, false, 1⟩
def f6 : P52.Fs := (P52.free f5 1).1
theorem fr1 : P52.connect P52.fs0 1 1 = (f1, 0) := rfl
theorem fr2 : P52.connect f1 2 1 = (f2, 0) := rfl
theorem fr3 : P52.request f2 Ka = (f3, 0) := fRequest_of (by rfl)
theorem fr5 : P52.request f4 Kb = (f5, 15) := fRequest_of (by rfl)
theorem fr5b : P52.request f5 Ka = (f5, 13) := fRequest_of (by rfl)
theorem fr5c : P52.retained f5 1 = [Ka] := by rfl
theorem fr6 : (P52.free f5 1).2 = [327681] := by rfl
theorem fr7 : (P52.connect f6 1 1).2 = 13 := by rfl
theorem ok1 : P52.Ok f1 0 := P52.ok0.connect 1 1
theorem ok2 : P52.Ok f2 0 := ok1.connect 2 1
theorem ok3 : P52.Ok f3 1 := by have h := ok2.request Ka; rw [fr3] at h; exact h
theorem ok4 : P52.Ok f4 1 := ok3.fail 1
theorem ok5 : P52.Ok f5 2 := by have h := ok4.request Kb; rw [fr5] at h; exact h
/-- The example under way. -/
def FW (w wr : World) (b : Nat) (F : P52.Fs) : Prop := ∃ S, Fac wr w.heap.size b F S ∧ Below w.heap.size w wr
section
variable {w wr w' : World} {b n : Nat} {F G : P52.Fs} {S S' : Nat → Prop} {code : Int}
theorem FW.below (h : FW w wr b F) (hb : Below wr.heap.size wr w') : FW w w' b F := by
  obtain ⟨S, hf, hbw⟩ := h
  exact ⟨S, hf.below hb, hbw.trans (hb.mono hbw.size)⟩
theorem FW.chg (hbw : Below w.heap.size w wr) (hf : Fac wr w.heap.size b F S) (hf' : Fac w' w.heap.size b G S') (c : Chg S S' wr w') : FW w w' b G :=
  ⟨S', hf', hbw.trans (hf.below_ c hbw.size)⟩
theorem FW.req {l : Lock} (h : FW w wr b F) (ok : P52.Ok F n) (hn : n < 90000) (hu : InR l.unit) (e : P52.request F l = (G, code)) :
    Calls Tryz.prog 16 #[.pointer (some ⟨b, 0, none⟩), lv l] wr fun e w' => e = .returned (.int .i64 code) ∧ FW w w' b G := by
  obtain ⟨S, hf, hbw⟩ := h
  refine (cfRequest l hu _ b F S wr n hf ok hn).mono ?_
  rintro e2 w2 ⟨S', rfl, hf2, hc⟩
  rw [e] at hf2 ⊢
  exact ⟨rfl, FW.chg hbw hf hf2 hc⟩
theorem FW.conn {k ep : Int} (h : FW w wr b F) (e : P52.connect F k ep = (G, code)) :
    Calls Tryz.prog 15 #[.pointer (some ⟨b, 0, none⟩), .int .i64 k, .int .i64 ep] wr fun e w' => e = .returned (.int .i64 code) ∧ FW w w' b G := by
  obtain ⟨S, hf, hbw⟩ := h
  refine (cfConnect k ep _ b F S wr hf).mono ?_
  rintro e2 w2 ⟨S', rfl, hf2, hc⟩
  rw [e] at hf2 ⊢
  exact ⟨rfl, FW.chg hbw hf hf2 hc⟩
theorem FW.fail {k : Int} (h : FW w wr b F) (ok : P52.Ok F n) (hn : n < 90000) (e : P52.fail F k = G) :
    Calls Tryz.prog 11 #[.pointer (some ⟨b, 0, none⟩), .int .i64 k] wr fun e w' => e = .returned (.tuple #[]) ∧ FW w w' b G := by
  obtain ⟨S, hf, hbw⟩ := h
  refine (cfFail k _ b F S wr n hf ok hn).mono ?_
  rintro e2 w2 ⟨S', rfl, hf2, hc⟩
  rw [e] at hf2
  exact ⟨rfl, FW.chg hbw hf hf2 hc⟩
theorem FW.free {k : Int} {outs : List Int} (h : FW w wr b F) (ok : P52.Ok F n) (hn : n < 90000) (e : P52.free F k = (G, outs)) :
    Calls Tryz.prog 12 #[.pointer (some ⟨b, 0, none⟩), .int .i64 k] wr fun e w' => ∃ v, e = .returned v ∧ OwnI w' wr.heap.size v outs ∧ FW w w' b G := by
  obtain ⟨S, hf, hbw⟩ := h
  refine (cfFree k _ b F S wr n hf ok hn).mono ?_
  rintro e2 w2 ⟨v, S', rfl, ho, hf2, hc, -⟩
  rw [e] at hf2 ho
  exact ⟨v, rfl, ho, FW.chg hbw hf hf2 hc⟩
theorem FW.ret {k : Int} {ls : List Lock} (h : FW w wr b F) (ok : P52.Ok F n) (hn : n < 90000) (e : P52.retained F k = ls) :
    Calls Tryz.prog 14 #[.pointer (some ⟨b, 0, none⟩), .int .i64 k] wr fun e w' => ∃ A c, e = .returned (.slice A ls.length c) ∧ FW w w' b F := by
  obtain ⟨S, hf, hbw⟩ := id h
  refine (cfRetained k _ b F S wr n hf ok hn).mono ?_
  rintro e2 w2 ⟨v, rfl, ho, hb⟩
  obtain ⟨A, c, rfl, -, -⟩ := ho.cells
  rw [e]
  exact ⟨A, c, rfl, h.below hb⟩
theorem FW.fast (h : FW w wr b F) (e : F.fast = code) : Calls Tryz.prog 32 #[.pointer (some ⟨b, 0, none⟩)] wr fun e w' => e = .returned (.int .i64 code) ∧ FW w w' b F := by
  obtain ⟨S, hf, hbw⟩ := id h
  refine (cfFast _ b F S wr hf).mono ?_
  rintro e2 w2 ⟨rfl, rfl⟩
  rw [e]
  exact ⟨rfl, h⟩
theorem FW.names (h : FW w wr b F) : Calls Tryz.prog 36 #[.pointer (some ⟨b, 0, none⟩)] wr fun e w' => ∃ nb, e = .returned (.pointer (some ⟨nb, 0, none⟩)) ∧ FW w w' b F := by
  obtain ⟨S, hf, hbw⟩ := id h
  refine (cfNames _ b F S wr hf).mono ?_
  rintro e2 w2 ⟨nb, rfl, rfl⟩
  exact ⟨nb, rfl, h⟩
end
set_option maxRecDepth 100000 in
theorem cfMk (u : Int) (w : World) : Calls Tryz.prog 35 #[.int .i64 u] w fun e w' => e = .returned (lv ⟨u, 200, ⟨[107], [107], false⟩, true⟩) ∧ Below w.heap.size w w' := by
  go_enter Tryz.func35, Tryz.ntmps35
  go_wp2
  exact bodyPost_ret (v := lv ⟨u, 200, ⟨[107], [107], false⟩, true⟩) (by simp [results, Tryz.results35, go_sem, lv]) rfl ⟨rfl, (Below.refl _ _).alloc (Nat.le_refl _) _⟩
set_option maxRecDepth 100000 in
set_option maxHeartbeats 4000000 in
theorem cfAwake (w : World) : Calls Tryz.prog 7 #[] w fun e w' => e = .returned (.bool true) ∧ Below w.heap.size w w' := by
  have hnp : ∀ (w : World) (p : Option Addr), (binOp .eql 25 (.pointer p) (.pointer none)).run Tryz.prog w = .ok (.bool (p.isNone)) w := fun w p => by cases p <;> simp [run_eql_pointer_nil w 25 _ (by kernel_rfl : Tryz.prog.underlying 25 = some (.pointer (Tryz.prog.pointee 25)))]
  have hnt : ∀ (w : World) (p : Option Addr), (binOp .neq 71 (.pointer p) (.pointer none)).run Tryz.prog w = .ok (.bool (p.isSome)) w := fun w p => by cases p <;> simp [run_neq_pointer_nil w 71 _ (by kernel_rfl : Tryz.prog.underlying 71 = some (.pointer (Tryz.prog.pointee 71)))]
  go_enter Tryz.func7, Tryz.ntmps7
  go_wp2_with fail
  refine (cfNew w).mono ?_
  rintro e w1 ⟨b, S, rfl, hf1, hb1⟩
  have HW := Lib.hid (show FW w w1 b P52.fs0 from ⟨S, hf1, hb1⟩)
  clear hf1 hb1
  go_wp2_with fail
  refine (FW.conn HW.out fr1).mono ?_
  rintro e wk ⟨rfl, hk⟩
  replace HW := Lib.hid hk
  clear hk
  go_wp2_with fail
  refine (FW.conn HW.out fr2).mono ?_
  rintro e wk ⟨rfl, hk⟩
  replace HW := Lib.hid hk
  clear hk
  go_wp2_with fail
  refine (cfMk 262145 _).mono ?_
  rintro e wk ⟨rfl, hk⟩
  replace HW := Lib.hid (HW.out.below hk)
  clear hk
  go_wp2_with fail
  refine (FW.req (n := 0) HW.out ok2 (by decide) (by unfold InR; decide) fr3).mono ?_
  rintro e wk ⟨rfl, hk⟩
  replace HW := Lib.hid hk
  clear hk
  go_wp2_with fail
  refine (FW.fast (code := 1) HW.out rfl).mono ?_
  rintro e wk ⟨rfl, hk⟩
  replace HW := Lib.hid hk
  clear hk
  go_wp2_with fail
  refine (FW.fail (k := 1) (G := f4) HW.out ok3 (by decide) rfl).mono ?_
  rintro e wk ⟨rfl, hk⟩
  replace HW := Lib.hid hk
  clear hk
  go_wp2_with fail
  refine (cfMk 327681 _).mono ?_
  rintro e wk ⟨rfl, hk⟩
  replace HW := Lib.hid (HW.out.below hk)
  clear hk
  go_wp2_with fail
  refine (FW.req (n := 1) HW.out ok4 (by decide) (by unfold InR; decide) fr5).mono ?_
  rintro e wk ⟨rfl, hk⟩
  replace HW := Lib.hid hk
  clear hk
  go_wp2_with fail
  refine (FW.fast (code := 1) HW.out rfl).mono ?_
  rintro e wk ⟨rfl, hk⟩
  replace HW := Lib.hid hk
  clear hk
  go_wp2_with fail
  refine (cfMk 262145 _).mono ?_
  rintro e wk ⟨rfl, hk⟩
  replace HW := Lib.hid (HW.out.below hk)
  clear hk
  go_wp2_with fail
  refine (FW.req (n := 2) HW.out ok5 (by decide) (by unfold InR; decide) fr5b).mono ?_
  rintro e wk ⟨rfl, hk⟩
  replace HW := Lib.hid hk
  clear hk
  go_wp2_with fail
  refine (FW.ret (n := 2) HW.out ok5 (by decide) fr5c).mono ?_
  rintro e wk ⟨A9, c9, rfl, hk⟩
  replace HW := Lib.hid hk
  clear hk
  go_wp2_with fail
  refine (FW.free (n := 2) (k := 1) (G := f6) (outs := [327681]) HW.out ok5 (by decide) (Prod.ext rfl fr6)).mono ?_
  rintro e wk ⟨v6, rfl, ho6, hk⟩
  replace HW := Lib.hid hk
  obtain ⟨A6, c6, rfl, hs6, -⟩ := ho6.cells
  obtain ⟨b6, o6, x6, rfl, hx6, hy6⟩ := hs6.at_ (k := 0) (by simp)
  simp at hx6
  subst hx6
  rw [Nat.add_zero] at hy6
  clear ho6 hs6 hk
  go_wp2_with fail
  refine (FW.names HW.out).mono ?_
  rintro e wk ⟨nb, rfl, hk⟩
  replace HW := Lib.hid hk
  clear hk
  go_wp2_with fail
  refine (FW.conn (G := (P52.connect f6 1 1).1) (code := 13) HW.out (Prod.ext rfl fr7)).mono ?_
  rintro e wk ⟨rfl, hk⟩
  replace HW := Lib.hid hk
  clear hk
  -- HERE
  go_wp2
  go_ret
  obtain ⟨S9, -, hbw⟩ := HW.out
  exact ⟨rfl, hbw⟩
end Go.Proofs.YtjklhiifjnmedaaGreat
namespace Go.Proofs.YtjklhiifjnmedaaGreat
open Go.RowKit Go.Maps P16 P46
attribute [local go_sem] ByteArray.mk_append_mk ByteArray.extract_mk mk_index

theorem few_len {xs : List ActL} {m : Int} (h : fewA xs m = true) : (xs.length : Int) ≤ m := by
  unfold fewA at h
  simp only [Bool.and_eq_true, decide_eq_true_eq] at h
  exact h.1
theorem wf_range {u : Int} (h : (Lit.int .i64 u).wf = true) : InR u := by
  simp [Lit.wf] at h
  exact h
theorem OwnL.reads52L {w : World} {B : Nat} {e : TypeId} {A : Option Addr} {n c : Nat} {ls : List Lock} (h : OwnL w B e (.slice A n c) ls) : LocksAt w A n ls ∧ ls.length = n := by
  obtain ⟨A', c', hv, hs, -⟩ := h.cells
  injection hv with h1 h2 h3
  subst h1
  rw [← h2] at hs
  exact ⟨hs, h2.symm⟩
theorem connect_s (F : P52.Fs) (k e : Int) : (P52.connect F k e).1.s = F.s := by
  unfold P52.connect
  split
  · rfl
  · split
    · rfl
    · split <;> rfl
theorem act_outs52 (F : P52.Fs) (a : ActL) {n : Nat} (h : F.s.h.length + F.s.q.length ≤ n) : (P52.act F a).2.2.length ≤ n := by
  have hc : (P52.cancel F a.l.unit).2.length ≤ n := by
    show (grantGo F.s.h [] (drop F.s.q a.l.unit) []).2.length ≤ n
    have h1 := grantGo_out (drop F.s.q a.l.unit) F.s.h [] []
    have h2 := P52.drop_len F.s.q a.l.unit
    simp at h1
    omega
  have hr : (P52.release F a.l.unit).2.length ≤ n := by
    have h1 := release_out F.s a.l.unit
    show (P46.release F.s a.l.unit).2.length ≤ n
    omega
  have hf : (P52.free F a.a).2.length ≤ n := by
    have h1 := frees_out (P52.unitsL (P52.retained F a.a)) (F.s, []) F.s.q.length (by simp)
    show ((P52.unitsL (P52.retained F a.a)).foldl P52.freeStep (F.s, [])).2.length ≤ n
    omega
  unfold P52.act
  repeat' split
  all_goals first | assumption | exact Nat.zero_le _
theorem ex52 {W w7 : World} {B b px : Nat} {F G : P52.Fs} {S : Nat → Prop} {A1 A2 : Option Addr} {n1 c1 n2 c2 : Nat} (k : K5 W w7 B b px F G S (.slice A1 n1 c1) (.slice A2 n2 c2)) (hl : G.s.h.length ≤ 100000) (hv : ∀ l ∈ G.s.h, InR l.unit) :
    ∀ (s : Int) (W : World), Below w7.heap.size w7 W → Calls Tryz.prog 28 #[.agg (rcs G (.slice A1 n1 c1) (.slice A2 n2 c2)), .int .i64 s] W fun e w2 => ∃ v, e = .returned v ∧ OwnL w2 W.heap.size 30 v (P52.exportL G s) ∧ Below W.heap.size W w2 := by
  intro s W hW
  obtain ⟨A, n, c, he, h1, -⟩ := (k.below hW).held
  injection he with e1 e2 e3
  subst e1 e2 e3
  exact roExport G _ _ _ (.slice A2 n2 c2) s W h1 (by have h := h1.len; omega) hv
/-- Behind the reference's call. -/
def KMid (W : World) (B b px : Nat) (F G : P52.Fs) (S : Nat → Prop) (code : Int) (outs got : List Int) (vg s9 s10 : Value) (wx : World) : Prop :=
  ∃ v1 v2, s9 = .int .i64 code ∧ Nums wx B S s10 outs ∧ Nums wx B S vg got ∧ K5 W wx B b px F G S v1 v2
set_option maxRecDepth 100000 in
set_option maxHeartbeats 40000000 in
theorem lawCalls52 (A : Option Addr) (n c : Nat) (xs : List ActL) (w : World) (ha : ActsAt w A n xs) (hn : n ≤ maxLen) (hu : ∀ a ∈ xs, ActOk a) :
    Calls Tryz.prog 5 #[.slice A n c] w fun e w' => e = .returned (.bool true) ∧ Below w.heap.size w w' := by
  have HA := Lib.hid ha
  have HU := Lib.hid hu
  have HL := Lib.hid ha.len
  clear ha hu
  have hlenA : (Tryz.prog.info? 32).map (·.size) = some 9 := by kernel_rfl
  have hlenL : (Tryz.prog.info? 30).map (·.size) = some 6 := by kernel_rfl
  have hlenS : (Tryz.prog.info? tS).map (·.size) = some 2 := by kernel_rfl
  have hlenR : (Tryz.prog.info? tR).map (·.size) = some 12 := by kernel_rfl
  have underR := Tryz.underlying55
  have hnp : ∀ (w : World) (p : Option Addr), (binOp .eql 25 (.pointer p) (.pointer none)).run Tryz.prog w = .ok (.bool (p.isNone)) w := fun w p => by cases p <;> simp [run_eql_pointer_nil w 25 _ (by kernel_rfl : Tryz.prog.underlying 25 = some (.pointer (Tryz.prog.pointee 25)))]
  cases hf : fewA xs 50 with
  | false =>
    have HF := Lib.hid hf
    clear hf
    go_enter Tryz.func5, Tryz.ntmps5
    go_wp2_with (first | (go_at_call 6; refine (cfFew 50 A n c xs w HA.out hn).mono ?_; rintro e w1 ⟨rfl, hb1⟩; rw [HF.out]; have HB1 := Lib.hid hb1; clear hb1) | (go_at_call 7; refine (cfAwake _).mono ?_; rintro e w2 ⟨rfl, hb2⟩; have HB2 := Lib.hid (below_then HB1.out hb2); clear hb2))
    go_ret
    exact ⟨rfl, HB2.out⟩
  | true =>
    have HF := Lib.hid hf
    have hn50 : n ≤ 50 := by have h := few_len hf; rw [HL.out] at h; omega
    clear hf
    go_enter Tryz.func5, Tryz.ntmps5
    go_upto_region 4 with (first | (go_at_call 6; refine (cfFew 50 A n c xs w HA.out hn).mono ?_; rintro e w1 ⟨rfl, hb1⟩; rw [HF.out]; have HB1 := Lib.hid hb1; clear hb1) | (go_at_call 8; refine (cfNew w1).mono ?_; rintro e w2 ⟨b, S2, rfl, hf2, hb2⟩; have HF2 := Lib.hid hf2; have HB2 := Lib.hid hb2; clear hf2 hb2))
    -- BOX
    obtain ⟨w3, px, e1, e2, hb3, h3⟩ := boxes1 w2 tR (rcs P52.fs0 (.slice none 0 0) (.slice none 0 0))
    unfold rcs P52.fs0 at e1
    rw [e1, e2]
    have HK3 := Lib.hid (show K5 w1 w3 w1.heap.size b px P52.fs0 P52.fs0 S2 (.slice none 0 0) (.slice none 0 0) from
      ⟨HF2.out.below hb3, h3, ⟨none, 0, 0, rfl, LocksAt.nil, fun _ => rfl, Nat.le_refl _, fun b off e => by cases e⟩, ⟨none, 0, 0, rfl, LocksAt.nil, fun _ => rfl, Nat.le_refl _, fun b off e => by cases e⟩, fun hs => by have h := (HF2.out.ge hs).2; omega, HB2.out.trans (hb3.mono HB2.out.size), Nat.le_trans HB2.out.size hb3.size, by have h := HB2.out.size; omega⟩)
    clear e1 e2 hb3 h3
    go_wp2
    have hz1 := HB1.out.size
    obtain ⟨B, hB⟩ : ∃ B, w1.heap.size = B := ⟨_, rfl⟩
    rw [hB] at HK3 hz1
    clear hB
    go_loopw [26] (fun i wr => ∃ (k : Nat) (F : P52.Fs) (S : Nat → Prop) (v1 v2 : Value), k ≤ n ∧ i = .int .i64 k ∧ P52.Ok F k ∧ K5 w1 wr B b px F F S v1 v2) (fun i _ => n - (intOf i).toNat)
    case atStart => exact ⟨0, _, _, _, _, Nat.zero_le _, rfl, P52.ok0, HK3.out⟩
    case round =>
      obtain ⟨k, F, S, v1, v2, hk, rfl, ok4, hk4⟩ := hrel
      have HK4 := Lib.hid hk4
      have OK4 := Lib.hid ok4
      clear ok4 hk4
      by_cases hlt : k < n
      · have hs := HA.out.below (HB1.out.trans (HK4.out.low.mono hz1))
        obtain ⟨ba, off, a, rfl, hx⟩ := hs.at_ hlt
        have HR := Lib.hid (hs.row hx)
        have HUA := Lib.hid (HU.out a (List.mem_iff_getElem?.2 ⟨k, hx⟩))
        clear hs hx
        go_upto_region 9 with (refine wpList_load_cells rfl 32 (.tmp 28) rfl ⟨ba, off + k * 9, none⟩ rfl _ _ HR.out Tryz.underlying32 rfl hlenA ?_)
        obtain ⟨w4, g4, e1, e2, hb4, h4⟩ := boxes1 wr 32 (aa a)
        unfold aa at e1
        rw [e1, e2]
        have HK5 := Lib.hid (HK4.out.below hb4)
        have HG4 := Lib.hid (show wr.heap.size ≤ g4 from by omega)
        have HX4 := Lib.hid h4
        clear e1 e2 hb4 h4
        have HSG := Lib.hid (show ¬ S g4 from fun hs => by have h1 := (HK4.out.fac.ge hs).2; have h2 := HG4.out; omega)
        have HPX := Lib.hid (show g4 ≠ px from fun e => by have h1 := HK4.out.box.lt; have h2 := HG4.out; omega)
        -- DO
        go_upto_region 10 with (first | (refine wpList_load_cells rfl 32 (.tmp 6) rfl ⟨g4, 0, none⟩ rfl _ _ HX4.out.add Tryz.underlying32 rfl hlenA ?_) | (go_at_call 9; refine (cfDo a (wf_range HUA.out.1) B b F S w4 k HK5.out.fac OK4.out (by omega)).mono ?_; rintro e w5 ⟨vg, S5, rfl, ho5, hf5, hc5, hn5⟩; have HK6 := Lib.hid (HK5.out.step hf5 hc5); have HN6 := Lib.hid (show Nums w5 B S5 vg (P52.act F a).2.2 from ⟨ho5.base HK5.out.base.1, hn5⟩); have HX6 := Lib.hid (HX4.out.chg hc5 HSG.out); clear ho5 hf5 hc5 hn5))
        go_upto_region 11 with (fail)
        have HK7 := Lib.hid (HK6.out.below (below_alloc (Below.refl _ w5) (.cells #[] 3)))
        have HN7 := Lib.hid (HN6.out.below (below_alloc (Below.refl _ w5) (.cells #[] 3)))
        have HX7 := Lib.hid (HX6.out.below (below_alloc (Below.refl _ w5) (.cells #[] 3)))
        have HW7 := Lib.hid (show Nums (w5.alloc (.cells #[] 3)) B S5 (.slice (some ⟨w5.heap.size, 0, none⟩) 0 0) [] from ⟨OwnI.empty w5 B HK6.out.base.1, fun z hz hs => by simp [Value.ownBlock] at hz; have h := (HK6.out.fac.ge hs).2; omega⟩)
        generalize (Value.slice (some ⟨w5.heap.size, 0, none⟩) 0 0) = vw at HW7 ⊢
        generalize w5.alloc (.cells #[] 3) = w7 at HK7 HN7 HX7 HW7 ⊢
        obtain ⟨a0, a1, a2, a3, a4, a5, a6, a7, a8⟩ := acells HX7.out
        obtain ⟨kd, hkd⟩ : ∃ kd, a.kind.tmod 11 = kd := ⟨_, rfl⟩
        -- SWITCH
        go_upto_block 2 with (fail)
        obtain ⟨Fa, hFa⟩ : ∃ z, (P52.act F a).1 = z := ⟨_, rfl⟩
        obtain ⟨code, hcode⟩ : ∃ z, (P52.act F a).2.1 = z := ⟨_, rfl⟩
        obtain ⟨outs, houts⟩ : ∃ z, (P52.act F a).2.2 = z := ⟨_, rfl⟩
        have HACT := Lib.hid (show P52.act F a = (Fa, code, outs) from by rw [← hFa, ← hcode, ← houts])
        have OKA := Lib.hid (show P52.Ok Fa (k + 1) from by rw [← hFa]; exact OK4.out.act a)
        rw [hFa] at HK7
        rw [houts] at HN7
        rw [hcode]
        clear hFa hcode houts HK6 HN6
        have HLN := Lib.hid OK4.out.len
        have HOL := Lib.hid (show outs.length ≤ 50 from by have h := act_outs52 F a OK4.out.len; rw [HACT.out] at h; simp only at h; omega)
        go_cut [9, 10, 11, 12] (fun s9 s10 _ _ wx => KMid w1 B b px Fa Fa S5 code outs outs vg s9 s10 wx)
        case first =>
          obtain ⟨-, -, -, -, -, -, -, -, d8, d9, -, -⟩ := rcells52 HK7.out.box
          have hfz := fun i => HK7.out.box.frozen i
          have hlp := HK7.out.box.lt
          by_cases k4 : kd = 4
          · as_aux_lemma =>
                -- FAST(
                have hA : P52.act F a = ((P52.cancel F a.l.unit).1, 0, (P52.cancel F a.l.unit).2) := by unfold P52.act; rw [if_pos (by rw [hkd]; exact k4)]
                have E1 := Lib.hid (show Fa = (P52.cancel F a.l.unit).1 from by have h := HACT.out.symm.trans hA; exact congrArg Prod.fst h)
                have E2 := Lib.hid (show code = 0 from by have h := HACT.out.symm.trans hA; exact congrArg (fun z => z.2.1) h)
                have E3 := Lib.hid (show outs = (P52.cancel F a.l.unit).2 from by have h := HACT.out.symm.trans hA; exact congrArg (fun z => z.2.2) h)
                have b4 : (kd == 4) = true := beq_of k4
                clear hA hkd k4
                go_wp2_with (go_at_call 22; refine (refCancel a.l.unit (XS S5 px) v1 v2 F.s.h F.s.q w7 HK7.out.held HK7.out.queue HK7.out.fresh (by have h := HLN.out; omega)).mono ?_; rintro e w8 ⟨va, vb, vo, rfl, ha8, hb8, ho8, hbe8⟩; have HA8 := Lib.hid ha8; have HB8 := Lib.hid hb8; have HK8 := Lib.hid (HK7.out.below hbe8); have HN8 := Lib.hid (HN7.out.below hbe8); have HW8 := Lib.hid (show Nums w8 B S5 vo (P52.cancel F a.l.unit).2 from ⟨ho8.base HK7.out.base.1, fun z hz hs => by have h1 := (ho8.lt z hz).1; have h2 := (HK7.out.fac.ge hs).2; omega⟩); obtain ⟨-, -, -, -, -, -, -, -, d8, d9, -, -⟩ := rcells52 HK8.out.box; have hfz := fun i => HK8.out.box.frozen i; have hlp := HK8.out.box.lt; obtain ⟨Aa, na, ca, hva, -⟩ := id ha8; obtain ⟨Ab, nb, cb, hvb, -⟩ := id hb8; subst hva; subst hvb; clear ha8 hb8 ho8 hbe8)
                have HK9 := Lib.hid (HK8.out.putTwo HA8.out HB8.out)
                have HW9 := Lib.hid (HW8.out.two HK8.out.box (.slice Aa na ca) (.slice Ab nb cb))
                have HN9 := Lib.hid (HN8.out.two HK8.out.box (.slice Aa na ca) (.slice Ab nb cb))
                clear d8 d9 hfz hlp
                try go_wp2
                go_meet
                case rel => exact ⟨_, _, by rw [E2.out], by rw [E3.out]; exact HW9.out, HN9.out, by rw [E1.out]; exact E1.out ▸ HK9.out⟩
                -- FAST)
          · skip
            by_cases k5 : kd = 5
            · as_aux_lemma =>
                  -- FAST(
                  have hA : P52.act F a = ((P52.release F a.l.unit).1, 0, (P52.release F a.l.unit).2) := by unfold P52.act; rw [if_neg (by rw [hkd]; exact k4), if_pos (by rw [hkd]; exact k5)]
                  have E1 := Lib.hid (show Fa = (P52.release F a.l.unit).1 from by have h := HACT.out.symm.trans hA; exact congrArg Prod.fst h)
                  have E2 := Lib.hid (show code = 0 from by have h := HACT.out.symm.trans hA; exact congrArg (fun z => z.2.1) h)
                  have E3 := Lib.hid (show outs = (P52.release F a.l.unit).2 from by have h := HACT.out.symm.trans hA; exact congrArg (fun z => z.2.2) h)
                  have b4 : (kd == 4) = false := beq_not k4
                  have b5 : (kd == 5) = true := beq_of k5
                  clear hA hkd k4 k5
                  go_wp2_with (go_at_call 23; refine (refRelease a.l.unit (XS S5 px) v1 v2 F.s.h F.s.q w7 HK7.out.held HK7.out.queue HK7.out.fresh (by have h := HLN.out; omega)).mono ?_; rintro e w8 ⟨va, vb, vo, rfl, ha8, hb8, ho8, hbe8⟩; have HA8 := Lib.hid ha8; have HB8 := Lib.hid hb8; have HK8 := Lib.hid (HK7.out.below hbe8); have HN8 := Lib.hid (HN7.out.below hbe8); have HW8 := Lib.hid (show Nums w8 B S5 vo (P52.release F a.l.unit).2 from ⟨ho8.base HK7.out.base.1, fun z hz hs => by have h1 := (ho8.lt z hz).1; have h2 := (HK7.out.fac.ge hs).2; omega⟩); obtain ⟨-, -, -, -, -, -, -, -, d8, d9, -, -⟩ := rcells52 HK8.out.box; have hfz := fun i => HK8.out.box.frozen i; have hlp := HK8.out.box.lt; obtain ⟨Aa, na, ca, hva, -⟩ := id ha8; obtain ⟨Ab, nb, cb, hvb, -⟩ := id hb8; subst hva; subst hvb; clear ha8 hb8 ho8 hbe8)
                  have HK9 := Lib.hid (HK8.out.putTwo HA8.out HB8.out)
                  have HW9 := Lib.hid (HW8.out.two HK8.out.box (.slice Aa na ca) (.slice Ab nb cb))
                  have HN9 := Lib.hid (HN8.out.two HK8.out.box (.slice Aa na ca) (.slice Ab nb cb))
                  clear d8 d9 hfz hlp
                  try go_wp2
                  go_meet
                  case rel => exact ⟨_, _, by rw [E2.out], by rw [E3.out]; exact HW9.out, HN9.out, by rw [E1.out]; exact E1.out ▸ HK9.out⟩
                  -- FAST)
            · skip
              by_cases k6 : kd = 6
              · as_aux_lemma =>
                    -- FAST(
                    have hA : P52.act F a = ((P52.connect F a.a a.b).1, (P52.connect F a.a a.b).2, []) := by unfold P52.act; rw [if_neg (by rw [hkd]; exact k4), if_neg (by rw [hkd]; exact k5), if_pos (by rw [hkd]; exact k6)]
                    have E1 := Lib.hid (show Fa = (P52.connect F a.a a.b).1 from by have h := HACT.out.symm.trans hA; exact congrArg Prod.fst h)
                    have E2 := Lib.hid (show code = (P52.connect F a.a a.b).2 from by have h := HACT.out.symm.trans hA; exact congrArg (fun z => z.2.1) h)
                    have E3 := Lib.hid (show outs = [] from by have h := HACT.out.symm.trans hA; exact congrArg (fun z => z.2.2) h)
                    have b4 : (kd == 4) = false := beq_not k4
                    have b5 : (kd == 5) = false := beq_not k5
                    have b6 : (kd == 6) = true := beq_of k6
                    clear hA hkd k4 k5 k6
                    obtain ⟨A1, n1, c1, hv1, -⟩ := id HK7.out.held
                    obtain ⟨A2, n2, c2, hv2, -⟩ := id HK7.out.queue
                    subst hv1
                    subst hv2
                    clear d8 d9 hfz hlp
                    go_wp2_with (first | (refine wpList_load_row rfl tR (.tmp 4) rfl px rfl tR _ (0, 0) _ HK7.out.box underR rfl (by kernel_rfl) ?_) | (go_at_call 24; refine (roConnect F A1 A2 n1 n2 c1 c2 a.a a.b (wf_range HUA.out.2.1) (wf_range HUA.out.2.2) w7).mono ?_; rintro e w8 ⟨rfl, hbe8⟩; have HK8 := Lib.hid (HK7.out.below hbe8); have HN8 := Lib.hid (HN7.out.below hbe8); have HW8 := Lib.hid (HW7.out.below hbe8); have HSL8 := Lib.hid HK8.out.slices; clear hbe8) | (refine wpList_store_row rfl tR (.tmp 4) (.tmp 80) rfl px _ rfl rfl tR _ HK8.out.box hlenR rfl (rcs_one HSL8.out) ?_))
                    have HK9 := Lib.hid (HK8.out.putRow (G' := (P52.connect F a.a a.b).1) (by rw [connect_s]; exact HK8.out.held) (by rw [connect_s]; exact HK8.out.queue))
                    try go_wp2
                    go_meet
                    case rel => exact ⟨_, _, by rw [E2.out], by rw [E3.out]; exact HW8.out.row HK8.out.box _, HN8.out.row HK8.out.box _, by rw [E1.out]; exact E1.out ▸ HK9.out⟩
                    -- FAST)
              · skip
                by_cases k7 : kd = 7
                · as_aux_lemma =>
                      -- FAST(
                      have hA : P52.act F a = (P52.fail F a.a, 0, []) := by unfold P52.act; rw [if_neg (by rw [hkd]; exact k4), if_neg (by rw [hkd]; exact k5), if_neg (by rw [hkd]; exact k6), if_pos (by rw [hkd]; exact k7)]
                      have E1 := Lib.hid (show Fa = P52.fail F a.a from by have h := HACT.out.symm.trans hA; exact congrArg Prod.fst h)
                      have E2 := Lib.hid (show code = 0 from by have h := HACT.out.symm.trans hA; exact congrArg (fun z => z.2.1) h)
                      have E3 := Lib.hid (show outs = [] from by have h := HACT.out.symm.trans hA; exact congrArg (fun z => z.2.2) h)
                      have b4 : (kd == 4) = false := beq_not k4
                      have b5 : (kd == 5) = false := beq_not k5
                      have b6 : (kd == 6) = false := beq_not k6
                      have b7 : (kd == 7) = true := beq_of k7
                      clear hA hkd k4 k5 k6 k7
                      clear d8 d9 hfz hlp
                      go_wp2_with (first | (refine wpList_load_row rfl tR (.tmp 4) rfl px rfl tR _ (0, 0) _ HK7.out.box underR rfl (by kernel_rfl) ?_) | (go_at_call 25; refine (roFail F a.a (XS S5 px) v1 v2 w7 HK7.out.held HK7.out.queue HK7.out.fresh (by have h := HLN.out; omega) OK4.out.valids).mono ?_; rintro e w8 ⟨va, vb, rfl, ha8, hb8, hbe8⟩; have HK8 := Lib.hid (HK7.out.below hbe8); have HN8 := Lib.hid (HN7.out.below hbe8); have HW8 := Lib.hid (HW7.out.below hbe8); have HSL8 := Lib.hid (show slices va vb from ⟨ha8.slice, hb8.slice⟩); have HA8 := Lib.hid ha8; have HB8 := Lib.hid hb8; clear hbe8) | (refine wpList_store_row rfl tR (.tmp 4) (.tmp 87) rfl px _ rfl rfl tR _ HK8.out.box hlenR rfl (rcs_one HSL8.out) ?_))
                      have HK9 := Lib.hid (HK8.out.putRow HA8.out HB8.out)
                      try go_wp2
                      go_meet
                      case rel => exact ⟨_, _, by rw [E2.out], by rw [E3.out]; exact HW8.out.row HK8.out.box _, HN8.out.row HK8.out.box _, by rw [E1.out]; exact E1.out ▸ HK9.out⟩
                      -- FAST)
                · skip
                  by_cases k8 : kd = 8
                  · as_aux_lemma =>
                        -- FAST(
                        have hA : P52.act F a = ((P52.free F a.a).1, 0, (P52.free F a.a).2) := by unfold P52.act; rw [if_neg (by rw [hkd]; exact k4), if_neg (by rw [hkd]; exact k5), if_neg (by rw [hkd]; exact k6), if_neg (by rw [hkd]; exact k7), if_pos (by rw [hkd]; exact k8)]
                        have E1 := Lib.hid (show Fa = (P52.free F a.a).1 from by have h := HACT.out.symm.trans hA; exact congrArg Prod.fst h)
                        have E2 := Lib.hid (show code = 0 from by have h := HACT.out.symm.trans hA; exact congrArg (fun z => z.2.1) h)
                        have E3 := Lib.hid (show outs = (P52.free F a.a).2 from by have h := HACT.out.symm.trans hA; exact congrArg (fun z => z.2.2) h)
                        have b4 : (kd == 4) = false := beq_not k4
                        have b5 : (kd == 5) = false := beq_not k5
                        have b6 : (kd == 6) = false := beq_not k6
                        have b7 : (kd == 7) = false := beq_not k7
                        have b8 : (kd == 8) = true := beq_of k8
                        clear hA hkd k4 k5 k6 k7 k8
                        clear d8 d9 hfz hlp
                        go_wp2_with (first | (refine wpList_load_row rfl tR (.tmp 4) rfl px rfl tR _ (0, 0) _ HK7.out.box underR rfl (by kernel_rfl) ?_) | (go_at_call 26; refine (roFree F a.a (XS S5 px) v1 v2 w7 HK7.out.held HK7.out.queue HK7.out.fresh (by have h := HLN.out; omega) OK4.out.valids).mono ?_; rintro e w8 ⟨va, vb, vo, rfl, ha8, hb8, ho8, hbe8⟩; have HK8 := Lib.hid (HK7.out.below hbe8); have HN8 := Lib.hid (HN7.out.below hbe8); have HW8 := Lib.hid (HW7.out.below hbe8); have HSL8 := Lib.hid (show slices va vb from ⟨ha8.slice, hb8.slice⟩); have HA8 := Lib.hid ha8; have HB8 := Lib.hid hb8; have HV8 := Lib.hid (show Nums w8 B S5 vo (P52.free F a.a).2 from ⟨ho8.base HK7.out.base.1, fun z hz hs => by have h1 := (ho8.lt z hz).1; have h2 := (HK7.out.fac.ge hs).2; omega⟩); clear ho8; clear hbe8) | (refine wpList_store_row rfl tR (.tmp 4) (.tmp 95) rfl px _ rfl rfl tR _ HK8.out.box hlenR rfl (rcs_one HSL8.out) ?_))
                        have HK9 := Lib.hid (HK8.out.putRow HA8.out HB8.out)
                        have HW9 := Lib.hid (HV8.out.row HK8.out.box (rcs (P52.free F a.a).1 va vb))
                        try go_wp2
                        go_meet
                        case rel => exact ⟨_, _, by rw [E2.out], by rw [E3.out]; exact HV8.out.row HK8.out.box _, HN8.out.row HK8.out.box _, by rw [E1.out]; exact E1.out ▸ HK9.out⟩
                        -- FAST)
                  · skip
                    by_cases k9 : kd = 9
                    · as_aux_lemma =>
                          -- FAST(
                          have hA : P52.act F a = (P52.lose F, 0, []) := by unfold P52.act; rw [if_neg (by rw [hkd]; exact k4), if_neg (by rw [hkd]; exact k5), if_neg (by rw [hkd]; exact k6), if_neg (by rw [hkd]; exact k7), if_neg (by rw [hkd]; exact k8), if_pos (by rw [hkd]; exact k9)]
                          have E1 := Lib.hid (show Fa = P52.lose F from by have h := HACT.out.symm.trans hA; exact congrArg Prod.fst h)
                          have E2 := Lib.hid (show code = 0 from by have h := HACT.out.symm.trans hA; exact congrArg (fun z => z.2.1) h)
                          have E3 := Lib.hid (show outs = [] from by have h := HACT.out.symm.trans hA; exact congrArg (fun z => z.2.2) h)
                          have b4 : (kd == 4) = false := beq_not k4
                          have b5 : (kd == 5) = false := beq_not k5
                          have b6 : (kd == 6) = false := beq_not k6
                          have b7 : (kd == 7) = false := beq_not k7
                          have b8 : (kd == 8) = false := beq_not k8
                          have b9 : (kd == 9) = true := beq_of k9
                          clear hA hkd k4 k5 k6 k7 k8 k9
                          clear d8 d9 hfz hlp
                          go_wp2_with (first | (refine wpList_load_row rfl tR (.tmp 4) rfl px rfl tR _ (0, 0) _ HK7.out.box underR rfl (by kernel_rfl) ?_) | (go_at_call 27; refine (roLose F (XS S5 px) v1 v2 w7 HK7.out.held HK7.out.queue).mono ?_; rintro e w8 ⟨va, vb, rfl, ha8, hb8, hbe8⟩; have HK8 := Lib.hid (HK7.out.below hbe8); have HN8 := Lib.hid (HN7.out.below hbe8); have HW8 := Lib.hid (HW7.out.below hbe8); have HSL8 := Lib.hid (show slices va vb from ⟨ha8.slice, hb8.slice⟩); have HA8 := Lib.hid ha8; have HB8 := Lib.hid hb8; clear hbe8) | (refine wpList_store_row rfl tR (.tmp 4) (.tmp 100) rfl px _ rfl rfl tR _ HK8.out.box hlenR rfl (rcs_one HSL8.out) ?_))
                          have HK9 := Lib.hid (HK8.out.putRow HA8.out HB8.out)
                          try go_wp2
                          go_meet
                          case rel => exact ⟨_, _, by rw [E2.out], by rw [E3.out]; exact HW8.out.row HK8.out.box _, HN8.out.row HK8.out.box _, by rw [E1.out]; exact E1.out ▸ HK9.out⟩
                          -- FAST)
                    · skip
                      by_cases k10 : kd = 10
                      · as_aux_lemma =>
                            -- FAST(
                            have hA : P52.act F a = ((P52.rebuild F (P52.exportsL F)).1, (P52.rebuild F (P52.exportsL F)).2, []) := by unfold P52.act; rw [if_neg (by rw [hkd]; exact k4), if_neg (by rw [hkd]; exact k5), if_neg (by rw [hkd]; exact k6), if_neg (by rw [hkd]; exact k7), if_neg (by rw [hkd]; exact k8), if_neg (by rw [hkd]; exact k9), if_pos (by rw [hkd]; exact k10)]
                            have E1 := Lib.hid (show Fa = (P52.rebuild F (P52.exportsL F)).1 from by have h := HACT.out.symm.trans hA; exact congrArg Prod.fst h)
                            have E2 := Lib.hid (show code = (P52.rebuild F (P52.exportsL F)).2 from by have h := HACT.out.symm.trans hA; exact congrArg (fun z => z.2.1) h)
                            have E3 := Lib.hid (show outs = [] from by have h := HACT.out.symm.trans hA; exact congrArg (fun z => z.2.2) h)
                            have b4 : (kd == 4) = false := beq_not k4
                            have b5 : (kd == 5) = false := beq_not k5
                            have b6 : (kd == 6) = false := beq_not k6
                            have b7 : (kd == 7) = false := beq_not k7
                            have b8 : (kd == 8) = false := beq_not k8
                            have b9 : (kd == 9) = false := beq_not k9
                            have b10 : (kd == 10) = true := beq_of k10
                            clear hA hkd k4 k5 k6 k7 k8 k9 k10
                            obtain ⟨A1, n1, c1, hv1, -⟩ := id HK7.out.held
                            obtain ⟨A2, n2, c2, hv2, -⟩ := id HK7.out.queue
                            subst hv1
                            subst hv2
                            clear d8 d9 hfz hlp a0 a1 a2 a3 a4 a5 a6 a7 a8
                            obtain ⟨wq, hwq⟩ : ∃ z : World, z = wr := ⟨_, rfl⟩
                            subst hwq
                            obtain ⟨i0, hi0, hz0, hz1, hz2⟩ := info_parts infoL
                            have HI := Lib.hid hi0
                            have HZ0 := Lib.hid hz0
                            have HZ1 := Lib.hid hz1
                            have HZ2 := Lib.hid hz2
                            clear hi0 hz0 hz1 hz2
                            have HEX := Lib.hid (ex52 HK7.out (n1 := n1) (by have h := HLN.out; omega) (fun l hl => InR.num (valid_num (OK4.out.valids.1 l hl))))
                            go_wp2
                            go_loopw [11, 12] (fun v i wr => ∃ j : Nat, j ≤ 4 ∧ i = .int .i64 (j + 1) ∧ OwnL wr w7.heap.size 30 v (expTo F j) ∧ Below w7.heap.size w7 wr) (fun _ i _ => 6 - (intOf i).toNat)
                            case atStart => exact ⟨0, by omega, by simp, OwnL.nil _ _ _, Below.refl _ _⟩
                            case round =>
                              obtain ⟨j, hj, rfl, ho, hbw⟩ := hrel
                              have HO := Lib.hid ho
                              have HB := Lib.hid hbw
                              have HKB := Lib.hid (HK7.out.below hbw)
                              clear ho hbw
                              obtain ⟨A9, c9, rfl, -, -⟩ := HO.out.cells
                              by_cases hlt2 : j < 4
                              · have HLM := Lib.hid (show (expTo F j).length + (P52.exportL F ((j : Int) + 1)).length ≤ 1000000 from by
                                  have h1 := expTo_len F j
                                  have h2 : (P52.exportL F ((j : Int) + 1)).length ≤ F.s.h.length := List.length_filter_le _ _
                                  have h3 := HLN.out
                                  have h5 : j * F.s.h.length ≤ 4 * F.s.h.length := Nat.mul_le_mul_right _ hj
                                  omega)
                                have HX := Lib.hid (show expTo F (j + 1) = expTo F j ++ P52.exportL F ((j : Int) + 1) from rfl)
                                go_wp2_with (first | (refine wpList_load_row rfl tR (.tmp 4) rfl px rfl tR _ (0, 0) _ HKB.out.box underR rfl (by kernel_rfl) ?_) | (go_at_call 28; refine (HEX.out ((j : Int) + 1) wr HB.out).mono ?_; rintro e w2 ⟨v2, rfl, ho2, hb2⟩; have HO2 := Lib.hid (HO.out.below hb2); have HB2 := Lib.hid (HB.out.trans (hb2.mono HB.out.size)); obtain ⟨A8, c8, rfl, hs2, -⟩ := ho2.cells; have HS2 := Lib.hid hs2; have HL2 := Lib.hid ho2.nilLen; clear ho2 hb2 hs2) | (at_builtin; refine wpList_append_locks rfl (.tmp 107) (.tmp 110) _ rfl w7.heap.size 30 i0 _ 64 Tryz.underlying41 HI.out HZ0.out HZ1.out HZ2.out rfl (by omega) _ (expTo F j) rfl HO2.out _ A8 _ c8 rfl HL2.out HS2.out HLM.out HB2.out.size ?_; intro v3 w3 hown3 hg3 hat3; have HO3 := Lib.hid hown3; have HB3 := Lib.hid (HB2.out.grown hg3 HB2.out.size (fun x hx => (HO2.out.lt x hx).1)); clear hown3 hg3 hat3))
                                go_roundw
                                case rel => exact ⟨j + 1, by omega, by go_num, by rw [HX.out]; exact HO3.out, HB3.out⟩
                                case measure => simp [intOf]; omega
                              · have hj4 : j = 4 := by omega
                                subst hj4
                                have e4 := expTo_all F
                                rw [e4] at HO ⊢
                                have hel := P52.exportsL_len F
                                have HUE := Lib.hid (show ∀ l ∈ P52.exportsL F, InR l.unit from fun l hl => InR.num (valid_num (OK4.out.valids.1 l (exports_held hl))))
                                obtain ⟨es, hes⟩ : ∃ z, P52.exportsL F = z := ⟨_, rfl⟩
                                rw [hes] at HO HUE hel E1 E2 ⊢
                                clear e4 hes
                                have HHS := Lib.hid (show LocksAt wr A9 es.length es from (HO.out.reads52L).1)
                                go_wp2_with (first | (refine wpList_load_row rfl tR (.tmp 4) rfl px rfl tR _ (0, 0) _ HKB.out.box underR rfl (by kernel_rfl) ?_) | (go_at_call 29; refine (roRebuild F A9 es.length c9 es (XS S5 px) (.slice A1 n1 c1) (.slice A2 n2 c2) wr HHS.out (by have h := HLN.out; omega) HUE.out HKB.out.held HKB.out.queue HKB.out.fresh).mono ?_; rintro e w8 ⟨va, vb, rfl, ha8, hb8, hbe8⟩; have HK8 := Lib.hid (HKB.out.below hbe8); have HN8 := Lib.hid ((HN7.out.below HB.out).below hbe8); have HW8 := Lib.hid ((HW7.out.below HB.out).below hbe8); have HSL8 := Lib.hid (show slices va vb from ⟨ha8.slice, hb8.slice⟩); have HA8 := Lib.hid ha8; have HB8 := Lib.hid hb8; clear hbe8) | (refine wpList_store_row rfl tR (.tmp 4) (.tmp 116) rfl px _ rfl rfl tR _ HK8.out.box hlenR rfl (rcs_one HSL8.out) ?_))
                                have HK9 := Lib.hid (HK8.out.putRow HA8.out HB8.out)
                                try go_wp2
                                go_meet
                                case rel => exact ⟨_, _, by rw [E2.out], by rw [E3.out]; exact HW8.out.row HK8.out.box _, HN8.out.row HK8.out.box _, by rw [E1.out]; exact E1.out ▸ HK9.out⟩
                            -- FAST)
                      · skip
                        as_aux_lemma =>
                            -- FAST(
                            have hA : P52.act F a = ((P52.request F a.l).1, (P52.request F a.l).2, []) := by unfold P52.act; rw [if_neg (by rw [hkd]; exact k4), if_neg (by rw [hkd]; exact k5), if_neg (by rw [hkd]; exact k6), if_neg (by rw [hkd]; exact k7), if_neg (by rw [hkd]; exact k8), if_neg (by rw [hkd]; exact k9), if_neg (by rw [hkd]; exact k10)]
                            have E1 := Lib.hid (show Fa = (P52.request F a.l).1 from by have h := HACT.out.symm.trans hA; exact congrArg Prod.fst h)
                            have E2 := Lib.hid (show code = (P52.request F a.l).2 from by have h := HACT.out.symm.trans hA; exact congrArg (fun z => z.2.1) h)
                            have E3 := Lib.hid (show outs = [] from by have h := HACT.out.symm.trans hA; exact congrArg (fun z => z.2.2) h)
                            have b4 : (kd == 4) = false := beq_not k4
                            have b5 : (kd == 5) = false := beq_not k5
                            have b6 : (kd == 6) = false := beq_not k6
                            have b7 : (kd == 7) = false := beq_not k7
                            have b8 : (kd == 8) = false := beq_not k8
                            have b9 : (kd == 9) = false := beq_not k9
                            have b10 : (kd == 10) = false := beq_not k10
                            clear hA hkd k4 k5 k6 k7 k8 k9 k10
                            clear d8 d9 hfz hlp
                            have HR3 := Lib.hid (show ∀ j u, (la a.l)[j]? = some u → w7.cell? ((⟨g4, 3, none⟩ : Addr).add j) = some u from fun j u hj => HX7.out.addFrom 3 j u (by simpa [aa, la] using hj))
                            go_wp2_with (first | (refine wpList_load_row rfl tR (.tmp 4) rfl px rfl tR _ (0, 0) _ HK7.out.box underR rfl (by kernel_rfl) ?_) | (refine wpList_load_cells rfl 30 (.tmp 42) rfl ⟨g4, 3, none⟩ rfl (la a.l) _ HR3.out Tryz.underlying30 rfl hlenL ?_) | (go_at_call 30; refine (roRequest F a.l (XS S5 px) v1 v2 w7 (wf_range HUA.out.1) HK7.out.held HK7.out.queue HK7.out.fresh (by have h := HLN.out; omega) OK4.out.good OK4.out.valids OK4.out.fast0 (by have h := OK4.out.fast; omega)).mono ?_; rintro e w8 ⟨va, vb, rfl, ha8, hb8, hbe8⟩; have HK8 := Lib.hid (HK7.out.below hbe8); have HN8 := Lib.hid (HN7.out.below hbe8); have HW8 := Lib.hid (HW7.out.below hbe8); have HSL8 := Lib.hid (show slices va vb from ⟨ha8.slice, hb8.slice⟩); have HA8 := Lib.hid ha8; have HB8 := Lib.hid hb8; clear hbe8) | (refine wpList_store_row rfl tR (.tmp 4) (.tmp 45) rfl px _ rfl rfl tR _ HK8.out.box hlenR rfl (rcs_one HSL8.out) ?_))
                            have HK9 := Lib.hid (HK8.out.putRow HA8.out HB8.out)
                            try go_wp2
                            go_meet
                            case rel => exact ⟨_, _, by rw [E2.out], by rw [E3.out]; exact HW8.out.row HK8.out.box _, HN8.out.row HK8.out.box _, by rw [E1.out]; exact E1.out ▸ HK9.out⟩
                            -- FAST)
        case rest =>
          as_aux_lemma =>
            obtain ⟨va, vb, rfl, hws, hns, hkc⟩ := hcut
            have HK9 := Lib.hid hkc
            obtain ⟨Aw, cw, hvw, hiw, -⟩ := hws.1.cells
            obtain ⟨Ag, cg, hvg, hig, -⟩ := hns.1.cells
            subst hvw
            subst hvg
            have HIW := Lib.hid hiw
            have HIG := Lib.hid hig
            have hol := HOL.out
            obtain ⟨m, hm⟩ : ∃ m, outs.length = m := ⟨_, rfl⟩
            rw [hm] at HIW HIG hol ⊢
            obtain ⟨A1, n1, c1, hv1, hl1, -⟩ := id hkc.held
            obtain ⟨A2, n2, c2, hv2, -⟩ := id hkc.queue
            subst hv1
            subst hv2
            have hn1 : n1 ≤ 51 := by have h1 := hl1.len; have h2 := OKA.out.len; omega
            have hh1 : Fa.s.h.length ≤ 51 := by have h2 := OKA.out.len; omega
            have HIN := Lib.hid (show ∀ l ∈ Fa.s.h, InR l.unit from fun l hl => InR.num (valid_num (OKA.out.valids.1 l hl)))
            clear hws hns hkc hiw hig hm hl1 HR HK3 HK4 HK5 HG4 HX4 HSG HPX HX6 HOL hkd HACT HLN HUA
            obtain ⟨wq, hwq⟩ : ∃ z : World, z = wr := ⟨_, rfl⟩
            clear hwq
            go_upto_region 32 with (fail)
            refine wp_region_frame (F := ?FA) 22 (by kernel_rfl) (by kernel_rfl) (fun w1 => Below wc.heap.size wc w1)
              (fun i v w1 => match i with
                | 0 => v = .int .i64 code
                | 1 => v = .int .i64 code
                | 2 => v = .bool false
                | 3 => v = .bool false
                | 4 => v = .slice Ag m cg
                | 5 => v = .slice Aw m cw
                | 6 => v = .bool true
                | 7 => v = .bool false
                | 8 => v = .bool false
                | 9 => v = .bool false
                | 10 => v = .pointer (some ⟨b, 0, none⟩)
                | 11 => v = .int .i64 Fa.fast
                | 12 => v = .pointer (some ⟨px, 11, none⟩)
                | 13 => v = .int .i64 Fa.fast
                | 14 => v = .bool false
                | 15 => v = .bool false
                | 16 => v = .bool false
                | 17 => v = .pointer (some ⟨b, 0, none⟩)
                | 18 => v = .bool Fa.lost
                | 19 => v = .pointer (some ⟨px, 10, none⟩)
                | 20 => v = .bool Fa.lost
                | 21 => v = .bool false
                | _ => True) (fun _ _ h1 h2 => h1.trans (h2.mono h1.size)) ?hFR ((Below.refl _ _).drew) ?hF ?hops ?hQ
            case hF =>
              intro u_
              rewrite [putAll_mid u_ _ _ 0 118 (by kernel_rfl) (of_decide_eq_true (by kernel_rfl))]
              rewrite [show ((List.range' 0 _).map u_) = [u_ 0, u_ 1, u_ 2, u_ 3, u_ 4, u_ 5, u_ 6, u_ 7, u_ 8, u_ 9, u_ 10, u_ 11, u_ 12, u_ 13, u_ 14, u_ 15, u_ 16, u_ 17, u_ 18, u_ 19, u_ 20, u_ 21] from by kernel_rfl]
              simp only [List.take_succ_cons, List.take_zero, List.drop_succ_cons, List.drop_zero, List.cons_append, List.nil_append, List.length_cons, List.length_nil, Nat.zero_add, Nat.reduceAdd]
              exact rfl
            case hFR =>
              intro ii vv w1 w2 hf hR
              match ii, hf with
              | 0, hf => exact hf
              | 1, hf => exact hf
              | 2, hf => exact hf
              | 3, hf => exact hf
              | 4, hf => exact hf
              | 5, hf => exact hf
              | 6, hf => exact hf
              | 7, hf => exact hf
              | 8, hf => exact hf
              | 9, hf => exact hf
              | 10, hf => exact hf
              | 11, hf => exact hf
              | 12, hf => exact hf
              | 13, hf => exact hf
              | 14, hf => exact hf
              | 15, hf => exact hf
              | 16, hf => exact hf
              | 17, hf => exact hf
              | 18, hf => exact hf
              | 19, hf => exact hf
              | 20, hf => exact hf
              | 21, hf => exact hf
              | n + 22, _ => trivial
            case hops =>
              refine allOps_cons ?_ (allOps_cons ?_ (allOps_cons ?_ (allOps_cons ?_ (allOps_cons ?_ (allOps_cons ?_ (allOps_cons ?_ (allOps_cons ?_ (allOps_cons ?_ (allOps_cons ?_ (allOps_cons ?_ (allOps_cons ?_ (allOps_cons ?_ (allOps_cons ?_ (allOps_cons ?_ (allOps_cons ?_ (allOps_cons ?_ (allOps_cons ?_ (allOps_cons ?_ (allOps_cons ?_ (allOps_cons ?_ (allOps_cons ?_ allOps_nil)))))))))))))))))))))
              · intro u_ w1 hC hd K hK
                try dsimp only at hK ⊢
                simp only [Act.put, List.setIfInBounds_toArray, List.set_cons_succ, List.set_cons_zero] at hK
                go_simp
                exact hK _ _ (Below.refl _ _) rfl
              · intro u_ w1 hC hd K hK
                try dsimp only at hK ⊢
                simp only [Act.put, List.setIfInBounds_toArray, List.set_cons_succ, List.set_cons_zero] at hK
                go_simp
                exact hK _ _ (Below.refl _ _) rfl
              · intro u_ w1 hC hd K hK
                have h0 : u_ 0 = .int .i64 code := hd 0 rfl
                have h1 : u_ 1 = .int .i64 code := hd 1 rfl
                simp only [h0, h1] at hK ⊢
                simp only [Act.put, List.setIfInBounds_toArray, List.set_cons_succ, List.set_cons_zero] at hK
                go_simp
                exact hK _ _ (Below.refl _ _) rfl
              · intro u_ w1 hC hd K hK
                have h2 : u_ 2 = .bool false := hd 2 rfl
                simp only [h2] at hK ⊢
                simp only [Act.put, List.setIfInBounds_toArray, List.set_cons_succ, List.set_cons_zero] at hK
                go_simp
                exact hK _ _ (Below.refl _ _) rfl
              · intro u_ w1 hC hd K hK
                have h3 : u_ 3 = .bool false := hd 3 rfl
                simp only [h3] at hK ⊢
                simp only [Act.put, List.setIfInBounds_toArray, List.set_cons_succ, List.set_cons_zero] at hK
                go_simp
                exact hK _ _ (Below.refl _ _) rfl
              · intro u_ w1 hC hd K hK
                have h3 : u_ 3 = .bool false := hd 3 rfl
                simp only [h3] at hK ⊢
                simp only [Act.put, List.setIfInBounds_toArray, List.set_cons_succ, List.set_cons_zero] at hK
                go_simp
                exact hK _ _ (Below.refl _ _) rfl
              · intro u_ w1 hC hd K hK
                have h3 : u_ 3 = .bool false := hd 3 rfl
                have h4 : u_ 4 = .slice Ag m cg := hd 4 rfl
                have h5 : u_ 5 = .slice Aw m cw := hd 5 rfl
                simp only [h3, h4, h5] at hK ⊢
                simp only [Act.put, List.setIfInBounds_toArray, List.set_cons_succ, List.set_cons_zero] at hK
                rw [if_pos (show Region.wanted _ _ = true from rfl)]
                go_simp
                refine (refInts Ag Aw m m cg cw outs outs w1 (HIG.out.below hC) (HIW.out.below hC) (by omega)).mono ?_
                rintro e w' ⟨rfl, hb⟩
                exact hK _ w' hb (by rw [decide_eq_true rfl])
              · intro u_ w1 hC hd K hK
                have h3 : u_ 3 = .bool false := hd 3 rfl
                have h6 : u_ 6 = .bool true := hd 6 rfl
                simp only [h3, h6] at hK ⊢
                simp only [Act.put, List.setIfInBounds_toArray, List.set_cons_succ, List.set_cons_zero] at hK
                go_simp
                exact hK _ _ (Below.refl _ _) rfl
              · intro u_ w1 hC hd K hK
                have h3 : u_ 3 = .bool false := hd 3 rfl
                have h7 : u_ 7 = .bool false := hd 7 rfl
                simp only [h3, h7] at hK ⊢
                simp only [Act.put, List.setIfInBounds_toArray, List.set_cons_succ, List.set_cons_zero] at hK
                go_simp
                exact hK _ _ (Below.refl _ _) rfl
              · intro u_ w1 hC hd K hK
                have h8 : u_ 8 = .bool false := hd 8 rfl
                simp only [h8] at hK ⊢
                simp only [Act.put, List.setIfInBounds_toArray, List.set_cons_succ, List.set_cons_zero] at hK
                go_simp
                exact hK _ _ (Below.refl _ _) rfl
              · intro u_ w1 hC hd K hK
                have h9 : u_ 9 = .bool false := hd 9 rfl
                simp only [h9] at hK ⊢
                simp only [Act.put, List.setIfInBounds_toArray, List.set_cons_succ, List.set_cons_zero] at hK
                go_simp
                exact hK _ _ (Below.refl _ _) rfl
              · intro u_ w1 hC hd K hK
                have h9 : u_ 9 = .bool false := hd 9 rfl
                have h10 : u_ 10 = .pointer (some ⟨b, 0, none⟩) := hd 10 rfl
                simp only [h9, h10] at hK ⊢
                simp only [Act.put, List.setIfInBounds_toArray, List.set_cons_succ, List.set_cons_zero] at hK
                rw [if_pos (show Region.wanted _ _ = true from rfl)]
                go_simp
                refine (cfFast B b Fa S5 w1 (HK9.out.fac.below hC)).mono ?_
                rintro e w' ⟨rfl, rfl⟩
                exact hK _ _ (Below.refl _ _) rfl
              · intro u_ w1 hC hd K hK
                have h9 : u_ 9 = .bool false := hd 9 rfl
                simp only [h9] at hK ⊢
                simp only [Act.put, List.setIfInBounds_toArray, List.set_cons_succ, List.set_cons_zero] at hK
                go_simp
                exact hK _ _ (Below.refl _ _) rfl
              · intro u_ w1 hC hd K hK
                have h9 : u_ 9 = .bool false := hd 9 rfl
                have h12 : u_ 12 = .pointer (some ⟨px, 11, none⟩) := hd 12 rfl
                have hc1 : w1.cell? ⟨px, 11, none⟩ = some (.int .i64 Fa.fast) := (HK9.out.box.below hC).cell 11
                simp only [h9, h12] at hK ⊢
                simp only [Act.put, List.setIfInBounds_toArray, List.set_cons_succ, List.set_cons_zero] at hK
                go_simp
                exact hK _ _ (Below.refl _ _) rfl
              · intro u_ w1 hC hd K hK
                have h9 : u_ 9 = .bool false := hd 9 rfl
                have h11 : u_ 11 = .int .i64 Fa.fast := hd 11 rfl
                have h13 : u_ 13 = .int .i64 Fa.fast := hd 13 rfl
                simp only [h9, h11, h13] at hK ⊢
                simp only [Act.put, List.setIfInBounds_toArray, List.set_cons_succ, List.set_cons_zero] at hK
                go_simp
                exact hK _ _ (Below.refl _ _) rfl
              · intro u_ w1 hC hd K hK
                have h9 : u_ 9 = .bool false := hd 9 rfl
                have h14 : u_ 14 = .bool false := hd 14 rfl
                simp only [h9, h14] at hK ⊢
                simp only [Act.put, List.setIfInBounds_toArray, List.set_cons_succ, List.set_cons_zero] at hK
                go_simp
                exact hK _ _ (Below.refl _ _) rfl
              · intro u_ w1 hC hd K hK
                have h15 : u_ 15 = .bool false := hd 15 rfl
                simp only [h15] at hK ⊢
                simp only [Act.put, List.setIfInBounds_toArray, List.set_cons_succ, List.set_cons_zero] at hK
                go_simp
                exact hK _ _ (Below.refl _ _) rfl
              · intro u_ w1 hC hd K hK
                have h16 : u_ 16 = .bool false := hd 16 rfl
                simp only [h16] at hK ⊢
                simp only [Act.put, List.setIfInBounds_toArray, List.set_cons_succ, List.set_cons_zero] at hK
                go_simp
                exact hK _ _ (Below.refl _ _) rfl
              · intro u_ w1 hC hd K hK
                have h16 : u_ 16 = .bool false := hd 16 rfl
                have h17 : u_ 17 = .pointer (some ⟨b, 0, none⟩) := hd 17 rfl
                simp only [h16, h17] at hK ⊢
                simp only [Act.put, List.setIfInBounds_toArray, List.set_cons_succ, List.set_cons_zero] at hK
                rw [if_pos (show Region.wanted _ _ = true from rfl)]
                go_simp
                refine (cfLost B b Fa S5 w1 (HK9.out.fac.below hC)).mono ?_
                rintro e w' ⟨rfl, rfl⟩
                exact hK _ _ (Below.refl _ _) rfl
              · intro u_ w1 hC hd K hK
                have h16 : u_ 16 = .bool false := hd 16 rfl
                simp only [h16] at hK ⊢
                simp only [Act.put, List.setIfInBounds_toArray, List.set_cons_succ, List.set_cons_zero] at hK
                go_simp
                exact hK _ _ (Below.refl _ _) rfl
              · intro u_ w1 hC hd K hK
                have h16 : u_ 16 = .bool false := hd 16 rfl
                have h19 : u_ 19 = .pointer (some ⟨px, 10, none⟩) := hd 19 rfl
                have hc1 : w1.cell? ⟨px, 10, none⟩ = some (.bool Fa.lost) := (HK9.out.box.below hC).cell 10
                simp only [h16, h19] at hK ⊢
                simp only [Act.put, List.setIfInBounds_toArray, List.set_cons_succ, List.set_cons_zero] at hK
                go_simp
                exact hK _ _ (Below.refl _ _) rfl
              · intro u_ w1 hC hd K hK
                have h16 : u_ 16 = .bool false := hd 16 rfl
                have h18 : u_ 18 = .bool Fa.lost := hd 18 rfl
                have h20 : u_ 20 = .bool Fa.lost := hd 20 rfl
                simp only [h16, h18, h20] at hK ⊢
                simp only [Act.put, List.setIfInBounds_toArray, List.set_cons_succ, List.set_cons_zero] at hK
                go_simp
                exact hK _ _ (Below.refl _ _) rfl
            case hQ =>
              intro u_ wt hC hf
              have h16 : u_ 16 = .bool false := hf 16 (by omega)
              have h21 : u_ 21 = .bool false := hf 21 (by omega)
              have HK10 := Lib.hid (HK9.out.below hC)
              clear hC hf
              simp only [List.drop_succ_cons, List.drop_zero, h16, h21]
              clear h16 h21
              go_wp2
              clear HK9
              go_loopw [13] (fun i wr => ∃ j : Nat, j ≤ 6 ∧ i = .int .i64 j ∧ Below wt.heap.size wt wr) (fun i _ => 6 - (intOf i).toNat)
              case atStart => exact ⟨0, by omega, rfl, Below.refl _ _⟩
              case round =>
                obtain ⟨j, hj, rfl, hbj⟩ := hrel
                have HJ := Lib.hid hbj
                have HKJ := Lib.hid (HK10.out.below hbj)
                clear hbj
                by_cases hlt2 : j < 6
                · go_upto_region 38 with (go_at_call 13; refine (cfEpoch (j : Int) B b Fa S5 _ HKJ.out.fac).mono ?_; rintro e wd ⟨rfl, hbd⟩; have HK12 := Lib.hid (HKJ.out.below hbd); have HJ12 := Lib.hid (HJ.out.trans (hbd.mono HJ.out.size)); clear hbd)
                  go_cut [189] (fun t wx => t = .bool false ∧ wx = wd)
                  case first =>
                    obtain ⟨d0, d1, d2, d3, d4, d5, d6, d7, -, -, -, -⟩ := rcells52 HK12.out.box
                    have hj6 : j = 0 ∨ j = 1 ∨ j = 2 ∨ j = 3 ∨ j = 4 ∨ j = 5 := by omega
                    rcases hj6 with rfl | rfl | rfl | rfl | rfl | rfl
                    all_goals
                      simp [epochP, onP, P52.okS]
                      go_wp2
                      go_meet
                      case rel => exact ⟨rfl, rfl⟩
                  case rest =>
                    obtain ⟨rfl, rfl⟩ := hcut
                    have HL1 := Lib.hid (show LocksAt wc A1 n1 Fa.s.h from by obtain ⟨A', n', c', he, h1, -⟩ := HK12.out.held; cases he; exact h1)
                    go_upto_region 40 with (fail)
                    as_aux_lemma =>
                      refine wp_region_frame (F := ?FB) 17 (by kernel_rfl) (by kernel_rfl) (fun w1 => Below wc.heap.size wc w1)
                        (fun i v w1 => match i with
                          | 0 => v = .pointer (some ⟨b, 0, none⟩)
                          | 1 => v = .int .i64 (j : Int)
                          | 2 => OwnL w1 wc.heap.size 30 v (P52.retained Fa (j : Int))
                          | 3 => v = .agg (rcs Fa (.slice A1 n1 c1) (.slice A2 n2 c2))
                          | 4 => v = .int .i64 (j : Int)
                          | 5 => OwnL w1 wc.heap.size 30 v (P52.retained Fa (j : Int))
                          | 6 => v = .bool true
                          | 7 => v = .bool false
                          | 8 => v = .bool false
                          | 9 => v = .pointer (some ⟨b, 0, none⟩)
                          | 10 => v = .int .i64 (j : Int)
                          | 11 => OwnL w1 wc.heap.size 30 v (P52.exportL Fa (j : Int))
                          | 12 => v = .agg (rcs Fa (.slice A1 n1 c1) (.slice A2 n2 c2))
                          | 13 => v = .int .i64 (j : Int)
                          | 14 => OwnL w1 wc.heap.size 30 v (P52.exportL Fa (j : Int))
                          | 15 => v = .bool true
                          | 16 => v = .bool false
                          | _ => True) (fun _ _ h1 h2 => h1.trans (h2.mono h1.size)) ?hFR ((Below.refl _ _).drew) ?hF ?hops ?hQ
                      case hF =>
                        intro u_
                        rewrite [putAll_mid u_ _ _ 0 190 (by kernel_rfl) (of_decide_eq_true (by kernel_rfl))]
                        rewrite [show ((List.range' 0 _).map u_) = [u_ 0, u_ 1, u_ 2, u_ 3, u_ 4, u_ 5, u_ 6, u_ 7, u_ 8, u_ 9, u_ 10, u_ 11, u_ 12, u_ 13, u_ 14, u_ 15, u_ 16] from by kernel_rfl]
                        simp only [List.take_succ_cons, List.take_zero, List.drop_succ_cons, List.drop_zero, List.cons_append, List.nil_append, List.length_cons, List.length_nil, Nat.zero_add, Nat.reduceAdd]
                        exact rfl
                      case hFR =>
                        intro ii vv w1 w2 hf hR
                        match ii, hf with
                        | 0, hf => exact hf
                        | 1, hf => exact hf
                        | 2, hf => exact OwnL.below hf hR
                        | 3, hf => exact hf
                        | 4, hf => exact hf
                        | 5, hf => exact OwnL.below hf hR
                        | 6, hf => exact hf
                        | 7, hf => exact hf
                        | 8, hf => exact hf
                        | 9, hf => exact hf
                        | 10, hf => exact hf
                        | 11, hf => exact OwnL.below hf hR
                        | 12, hf => exact hf
                        | 13, hf => exact hf
                        | 14, hf => exact OwnL.below hf hR
                        | 15, hf => exact hf
                        | 16, hf => exact hf
                        | n + 17, _ => trivial
                      case hops =>
                        refine allOps_cons ?_ (allOps_cons ?_ (allOps_cons ?_ (allOps_cons ?_ (allOps_cons ?_ (allOps_cons ?_ (allOps_cons ?_ (allOps_cons ?_ (allOps_cons ?_ (allOps_cons ?_ (allOps_cons ?_ (allOps_cons ?_ (allOps_cons ?_ (allOps_cons ?_ (allOps_cons ?_ (allOps_cons ?_ (allOps_cons ?_ allOps_nil))))))))))))))))
                        · intro u_ w1 hC hd K hK
                          try dsimp only at hK ⊢
                          simp only [Act.put, List.setIfInBounds_toArray, List.set_cons_succ, List.set_cons_zero] at hK
                          go_simp
                          exact hK _ _ (Below.refl _ _) rfl
                        · intro u_ w1 hC hd K hK
                          try dsimp only at hK ⊢
                          simp only [Act.put, List.setIfInBounds_toArray, List.set_cons_succ, List.set_cons_zero] at hK
                          go_simp
                          exact hK _ _ (Below.refl _ _) rfl
                        · intro u_ w1 hC hd K hK
                          have h0 : u_ 0 = .pointer (some ⟨b, 0, none⟩) := hd 0 rfl
                          have h1 : u_ 1 = .int .i64 (j : Int) := hd 1 rfl
                          simp only [h0, h1] at hK ⊢
                          simp only [Act.put, List.setIfInBounds_toArray, List.set_cons_succ, List.set_cons_zero] at hK
                          rw [if_pos (show Region.wanted _ _ = true from rfl)]
                          go_simp
                          refine (cfRetained (j : Int) B b Fa S5 w1 (k + 1) (HK12.out.fac.below hC) OKA.out (by omega)).mono ?_
                          rintro e w' ⟨v, rfl, ho, hb⟩
                          exact hK v w' hb (ho.base hC.size)
                        · intro u_ w1 hC hd K hK
                          try dsimp only at hK ⊢
                          simp only [Act.put, List.setIfInBounds_toArray, List.set_cons_succ, List.set_cons_zero] at hK
                          rw [if_pos (show Region.wanted _ _ = true from rfl)]
                          exact wp_load_cells tR (.tmp 4) rfl ⟨px, 0, none⟩ rfl (rcs Fa (.slice A1 n1 c1) (.slice A2 n2 c2)) _ ((HK12.out.box.below hC).add) underR rfl hlenR (hK _ _ (Below.refl _ _) rfl)
                        · intro u_ w1 hC hd K hK
                          try dsimp only at hK ⊢
                          simp only [Act.put, List.setIfInBounds_toArray, List.set_cons_succ, List.set_cons_zero] at hK
                          go_simp
                          exact hK _ _ (Below.refl _ _) rfl
                        · intro u_ w1 hC hd K hK
                          have h3 : u_ 3 = .agg (rcs Fa (.slice A1 n1 c1) (.slice A2 n2 c2)) := hd 3 rfl
                          have h4 : u_ 4 = .int .i64 (j : Int) := hd 4 rfl
                          simp only [h3, h4] at hK ⊢
                          simp only [Act.put, List.setIfInBounds_toArray, List.set_cons_succ, List.set_cons_zero] at hK
                          rw [if_pos (show Region.wanted _ _ = true from rfl)]
                          go_simp
                          refine (roRetained Fa A1 n1 c1 (.slice A2 n2 c2) (j : Int) w1 (HL1.out.below hC) (by omega) HIN.out).mono ?_
                          rintro e w' ⟨v, rfl, ho, hb⟩
                          exact hK v w' hb (ho.base hC.size)
                        · intro u_ w1 hC hd K hK
                          have h2 : OwnL w1 wc.heap.size 30 (u_ 2) (P52.retained Fa (j : Int)) := hd 2 rfl
                          have h5 : OwnL w1 wc.heap.size 30 (u_ 5) (P52.retained Fa (j : Int)) := hd 5 rfl
                          obtain ⟨Aa, ca, ea, hsa, -⟩ := h2.cells
                          obtain ⟨Ab, cb, eb, hsb, -⟩ := h5.cells
                          simp only [ea, eb] at hK ⊢
                          try dsimp only at hK ⊢
                          simp only [Act.put, List.setIfInBounds_toArray, List.set_cons_succ, List.set_cons_zero] at hK
                          rw [if_pos (show Region.wanted _ _ = true from rfl)]
                          go_simp
                          refine (refLocks Aa Ab _ _ ca cb _ _ w1 hsa hsb (by have h1 : (P52.retained Fa (j : Int)).length ≤ Fa.s.h.length := List.length_filter_le _ _; omega)).mono ?_
                          rintro e w' ⟨rfl, hb⟩
                          exact hK _ w' hb (by rw [decide_eq_true rfl])
                        · intro u_ w1 hC hd K hK
                          have h6 : u_ 6 = .bool true := hd 6 rfl
                          simp only [h6] at hK ⊢
                          simp only [Act.put, List.setIfInBounds_toArray, List.set_cons_succ, List.set_cons_zero] at hK
                          go_simp
                          exact hK _ _ (Below.refl _ _) rfl
                        · intro u_ w1 hC hd K hK
                          have h7 : u_ 7 = .bool false := hd 7 rfl
                          simp only [h7] at hK ⊢
                          simp only [Act.put, List.setIfInBounds_toArray, List.set_cons_succ, List.set_cons_zero] at hK
                          go_simp
                          exact hK _ _ (Below.refl _ _) rfl
                        · intro u_ w1 hC hd K hK
                          have h8 : u_ 8 = .bool false := hd 8 rfl
                          simp only [h8] at hK ⊢
                          simp only [Act.put, List.setIfInBounds_toArray, List.set_cons_succ, List.set_cons_zero] at hK
                          go_simp
                          exact hK _ _ (Below.refl _ _) rfl
                        · intro u_ w1 hC hd K hK
                          have h8 : u_ 8 = .bool false := hd 8 rfl
                          simp only [h8] at hK ⊢
                          simp only [Act.put, List.setIfInBounds_toArray, List.set_cons_succ, List.set_cons_zero] at hK
                          go_simp
                          exact hK _ _ (Below.refl _ _) rfl
                        · intro u_ w1 hC hd K hK
                          have h8 : u_ 8 = .bool false := hd 8 rfl
                          have h9 : u_ 9 = .pointer (some ⟨b, 0, none⟩) := hd 9 rfl
                          have h10 : u_ 10 = .int .i64 (j : Int) := hd 10 rfl
                          simp only [h8, h9, h10] at hK ⊢
                          simp only [Act.put, List.setIfInBounds_toArray, List.set_cons_succ, List.set_cons_zero] at hK
                          rw [if_pos (show Region.wanted _ _ = true from rfl)]
                          go_simp
                          refine (cfExport (j : Int) B b Fa S5 w1 (k + 1) (HK12.out.fac.below hC) OKA.out (by omega)).mono ?_
                          rintro e w' ⟨v, rfl, ho, hb⟩
                          exact hK v w' hb (ho.base hC.size)
                        · intro u_ w1 hC hd K hK
                          have h8 : u_ 8 = .bool false := hd 8 rfl
                          simp only [h8] at hK ⊢
                          simp only [Act.put, List.setIfInBounds_toArray, List.set_cons_succ, List.set_cons_zero] at hK
                          rw [if_pos (show Region.wanted _ _ = true from rfl)]
                          exact wp_load_cells tR (.tmp 4) rfl ⟨px, 0, none⟩ rfl (rcs Fa (.slice A1 n1 c1) (.slice A2 n2 c2)) _ ((HK12.out.box.below hC).add) underR rfl hlenR (hK _ _ (Below.refl _ _) rfl)
                        · intro u_ w1 hC hd K hK
                          have h8 : u_ 8 = .bool false := hd 8 rfl
                          simp only [h8] at hK ⊢
                          simp only [Act.put, List.setIfInBounds_toArray, List.set_cons_succ, List.set_cons_zero] at hK
                          go_simp
                          exact hK _ _ (Below.refl _ _) rfl
                        · intro u_ w1 hC hd K hK
                          have h8 : u_ 8 = .bool false := hd 8 rfl
                          have h12 : u_ 12 = .agg (rcs Fa (.slice A1 n1 c1) (.slice A2 n2 c2)) := hd 12 rfl
                          have h13 : u_ 13 = .int .i64 (j : Int) := hd 13 rfl
                          simp only [h8, h12, h13] at hK ⊢
                          simp only [Act.put, List.setIfInBounds_toArray, List.set_cons_succ, List.set_cons_zero] at hK
                          rw [if_pos (show Region.wanted _ _ = true from rfl)]
                          go_simp
                          refine (roExport Fa A1 n1 c1 (.slice A2 n2 c2) (j : Int) w1 (HL1.out.below hC) (by omega) HIN.out).mono ?_
                          rintro e w' ⟨v, rfl, ho, hb⟩
                          exact hK v w' hb (ho.base hC.size)
                        · intro u_ w1 hC hd K hK
                          have h8 : u_ 8 = .bool false := hd 8 rfl
                          have h11 : OwnL w1 wc.heap.size 30 (u_ 11) (P52.exportL Fa (j : Int)) := hd 11 rfl
                          have h14 : OwnL w1 wc.heap.size 30 (u_ 14) (P52.exportL Fa (j : Int)) := hd 14 rfl
                          obtain ⟨Aa, ca, ea, hsa, -⟩ := h11.cells
                          obtain ⟨Ab, cb, eb, hsb, -⟩ := h14.cells
                          simp only [ea, eb] at hK ⊢
                          simp only [h8] at hK ⊢
                          simp only [Act.put, List.setIfInBounds_toArray, List.set_cons_succ, List.set_cons_zero] at hK
                          rw [if_pos (show Region.wanted _ _ = true from rfl)]
                          go_simp
                          refine (refLocks Aa Ab _ _ ca cb _ _ w1 hsa hsb (by have h1 : (P52.exportL Fa (j : Int)).length ≤ Fa.s.h.length := List.length_filter_le _ _; omega)).mono ?_
                          rintro e w' ⟨rfl, hb⟩
                          exact hK _ w' hb (by rw [decide_eq_true rfl])
                        · intro u_ w1 hC hd K hK
                          have h8 : u_ 8 = .bool false := hd 8 rfl
                          have h15 : u_ 15 = .bool true := hd 15 rfl
                          simp only [h8, h15] at hK ⊢
                          simp only [Act.put, List.setIfInBounds_toArray, List.set_cons_succ, List.set_cons_zero] at hK
                          go_simp
                          exact hK _ _ (Below.refl _ _) rfl
                      case hQ =>
                        intro u_ wt hC hf
                        have h8 : u_ 8 = .bool false := hf 8 (by omega)
                        have h16 : u_ 16 = .bool false := hf 16 (by omega)
                        have HJ13 := Lib.hid (HJ12.out.trans (hC.mono HJ12.out.size))
                        clear hC hf
                        simp only [List.drop_succ_cons, List.drop_zero, h8, h16]
                        clear h8 h16
                        go_wp2
                        go_roundw
                        case rel => exact ⟨j + 1, by omega, by go_num, HJ13.out⟩
                        case measure => simp [intOf]; omega
                · have hj6 : j = 6 := by omega
                  subst hj6
                  go_wp2
                  go_roundw
                  case rel => exact ⟨k + 1, Fa, S5, _, _, hlt, by go_num, OKA.out, HKJ.out⟩
                  case measure => simp [intOf]; omega
      · have hkn : k = n := by omega
        subst hkn
        go_wp2_with (go_at_call 7; refine (cfAwake _).mono ?_; rintro e w9 ⟨rfl, hb9⟩; have HB9 := Lib.hid hb9; clear hb9)
        go_ret
        exact ⟨rfl, (HB1.out.trans (HK4.out.low.mono hz1)).trans (HB9.out.mono (Nat.le_trans hz1 HK4.out.base.1))⟩
end Go.Proofs.YtjklhiifjnmedaaGreat
