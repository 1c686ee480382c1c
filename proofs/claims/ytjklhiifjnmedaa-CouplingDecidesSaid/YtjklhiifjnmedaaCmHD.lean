/- The example of the chapter. A facility beside a lock manager: what a call on the one leaves of the other; plain theorems, no function of the program in sight. CouplingDecides: a facility decides as a lock manager does that gets the same calls. -/
import Derived.Test.YtjklhiifjnmedaaCmF
import Derived.Laws.Pointers
import Derived.Test.YtjklhiifjnmedaaCmD
import Derived.Test.YtjklhiifjnmedaaCmR
import Derived.Test.YtjklhiifjnmedaaLkCancel
import Derived.Test.YtjklhiifjnmedaaCmG
import Derived.Deep.RegionWith
namespace Go.Proofs.Ytjklhiifjnmedaa
open Go.RowKit Go.Maps P16 P46
attribute [local go_sem] ByteArray.mk_append_mk ByteArray.extract_mk mk_index

def hasB (s : St) (u : Int) : Bool := (s.h.any fun l => decide (l.unit = u)) || s.q.any fun l => decide (l.unit = u)
theorem hasB_iff {s : St} {u : Int} : hasB s u = true ↔ Has s u := by
  unfold hasB Has
  simp [List.any_eq_true]
def askN (s : St) (l : Lock) : Option (St × Int) := if blks s.h s.q l = [] then some (⟨s.h ++ [l], s.q⟩, 0) else if hasB s l.unit = true then none else some (⟨s.h, s.q ++ [l]⟩, 15)
theorem ask_of {s : St} {l : Lock} {r : St × Int} (h : askN s l = some r) : P46.ask s l = r := by
  unfold askN at h
  unfold P46.ask
  split at h
  · rename_i hb
    rw [if_pos hb]
    injection h
  · rename_i hb
    rw [if_neg hb]
    split at h
    · cases h
    · rename_i hh
      injection h with h
      rw [if_neg, h]
      intro hr
      obtain ⟨b, hb1, hb2⟩ := reaches_iff.1 hr
      rcases reach_has hb2 with rfl | h'
      · exact blks_ne hb1 rfl
      · exact hh (hasB_iff.2 h')
def requestN (s : St) (l : Lock) : Option (St × Int) :=
  if validL l = false then some (s, 1)
  else if covered s.h l = true then some (s, 0)
  else match idx s.q l.unit with
  | some i => if s.q[i]? = some l then some (s, 15) else askN (cancel s l.unit).1 l
  | none => askN s l
theorem request_of {s : St} {l : Lock} {r : St × Int} (h : requestN s l = some r) : P46.request s l = r := by
  unfold requestN at h
  unfold P46.request
  split at h
  · rename_i h1
    rw [if_pos h1]
    injection h
  · rename_i h1
    rw [if_neg h1]
    split at h
    · rename_i h2
      rw [if_pos h2]
      injection h
    · rename_i h2
      rw [if_neg h2]
      split at h
      · rename_i i hi
        rw [hi]
        dsimp only
        split at h
        · rename_i h3
          rw [if_pos h3]
          injection h
        · rename_i h3
          rw [if_neg h3]
          exact ask_of h
      · rename_i hi
        rw [hi]
        exact ask_of h
def fRequestN (F : P52.Fs) (l : Lock) : Option (P52.Fs × Int) :=
  if validL l = false ∨ P52.sysOf l.unit = 0 then some (F, 1)
  else if P52.pres F l.unit = false then some (F, 13)
  else if F.lost = true then some (F, 9)
  else match requestN F.s l with
  | some r => some (⟨F.ep, F.cn, r.1, F.lost, if P52.aloneB (F.s.h ++ F.s.q) l (P52.sysOf l.unit) = true then F.fast + 1 else F.fast⟩, r.2)
  | none => none
theorem fRequest_of {F : P52.Fs} {l : Lock} {r : P52.Fs × Int} (h : fRequestN F l = some r) : P52.request F l = r := by
  unfold fRequestN at h
  unfold P52.request
  by_cases h1 : validL l = false ∨ P52.sysOf l.unit = 0
  · rw [if_pos h1] at h ⊢
    exact Option.some.inj h
  · rw [if_neg h1] at h ⊢
    by_cases h2 : P52.pres F l.unit = false
    · rw [if_pos h2] at h ⊢
      exact Option.some.inj h
    · rw [if_neg h2] at h ⊢
      by_cases h3 : F.lost = true
      · rw [if_pos h3] at h ⊢
        exact Option.some.inj h
      · rw [if_neg h3] at h ⊢
        cases hr : requestN F.s l with
        | none =>
          rw [hr] at h
          cases h
        | some q =>
          rw [hr] at h
          rw [request_of hr]
          exact Option.some.inj h
abbrev Ka : Lock := ⟨262145, 200, ⟨[107], [107], false⟩, true⟩
abbrev Kb : Lock := ⟨327681, 200, ⟨[107], [107], false⟩, true⟩
def f1 : P52.Fs := (P52.connect P52.fs0 1 1).1
def f2 : P52.Fs := (P52.connect f1 2 1).1
def f3 : P52.Fs := ⟨f2.ep, f2.cn, ⟨[Ka], []⟩, false, 1⟩
def f4 : P52.Fs := P52.fail f3 1
def f5 : P52.Fs := ⟨f4.ep, f4.cn, ⟨[Ka], [Kb]⟩, false, 1⟩
def f6 : P52.Fs := (P52.free f5 1).1
theorem fr1 : P52.connect P52.fs0 1 1 = (f1, 0) := rfl
theorem fr2 : P52.connect f1 2 1 = (f2, 0) := rfl
theorem fr3 : P52.request f2 Ka = (f3, 0) := fRequest_of (by rfl)
theorem fr5 : P52.request f4 Kb = (f5, 15) := fRequest_of (by rfl)
theorem fr5b : P52.request f5 Ka = (f5, 13) := fRequest_of (by rfl)
theorem fr5c : P52.retained f5 1 = [Ka] := by rfl
theorem fr6 : (P52.free f5 1).2 = [327681] := by rfl
theorem fr7 : (P52.connect f6 1 1).2 = 13 := by rfl
theorem ok1 : P52.Ok f1 0 := P52.ok0.connect 1 1
theorem ok2 : P52.Ok f2 0 := ok1.connect 2 1
theorem ok3 : P52.Ok f3 1 := by have h := ok2.request Ka; rw [fr3] at h; exact h
theorem ok4 : P52.Ok f4 1 := ok3.fail 1
theorem ok5 : P52.Ok f5 2 := by have h := ok4.request Kb; rw [fr5] at h; exact h
/-- The example under way. -/
def FW (w wr : World) (b : Nat) (F : P52.Fs) : Prop := ∃ S, Fac wr w.heap.size b F S ∧ Below w.heap.size w wr
section
variable {w wr w' : World} {b n : Nat} {F G : P52.Fs} {S S' : Nat → Prop} {code : Int}
theorem FW.below (h : FW w wr b F) (hb : Below wr.heap.size wr w') : FW w w' b F := by
  obtain ⟨S, hf, hbw⟩ := h
  exact ⟨S, hf.below hb, hbw.trans (hb.mono hbw.size)⟩
theorem FW.chg (hbw : Below w.heap.size w wr) (hf : Fac wr w.heap.size b F S) (hf' : Fac w' w.heap.size b G S') (c : Chg S S' wr w') : FW w w' b G :=
  ⟨S', hf', hbw.trans (hf.below_ c hbw.size)⟩
theorem FW.req {l : Lock} (h : FW w wr b F) (ok : P52.Ok F n) (hn : n < 90000) (hu : InR l.unit) (e : P52.request F l = (G, code)) :
    Calls Try.prog 17 #[.pointer (some ⟨b, 0, none⟩), lv l] wr fun e w' => e = .returned (.int .i64 code) ∧ FW w w' b G := by
  obtain ⟨S, hf, hbw⟩ := h
  refine (cfRequest l hu _ b F S wr n hf ok hn).mono ?_
  rintro e2 w2 ⟨S', rfl, hf2, hc⟩
  rw [e] at hf2 ⊢
  exact ⟨rfl, FW.chg hbw hf hf2 hc⟩
theorem FW.conn {k ep : Int} (h : FW w wr b F) (e : P52.connect F k ep = (G, code)) :
    Calls Try.prog 12 #[.pointer (some ⟨b, 0, none⟩), .int .i64 k, .int .i64 ep] wr fun e w' => e = .returned (.int .i64 code) ∧ FW w w' b G := by
  obtain ⟨S, hf, hbw⟩ := h
  refine (cfConnect k ep _ b F S wr hf).mono ?_
  rintro e2 w2 ⟨S', rfl, hf2, hc⟩
  rw [e] at hf2 ⊢
  exact ⟨rfl, FW.chg hbw hf hf2 hc⟩
theorem FW.fail {k : Int} (h : FW w wr b F) (ok : P52.Ok F n) (hn : n < 90000) (e : P52.fail F k = G) :
    Calls Try.prog 21 #[.pointer (some ⟨b, 0, none⟩), .int .i64 k] wr fun e w' => e = .returned (.tuple #[]) ∧ FW w w' b G := by
  obtain ⟨S, hf, hbw⟩ := h
  refine (cfFail k _ b F S wr n hf ok hn).mono ?_
  rintro e2 w2 ⟨S', rfl, hf2, hc⟩
  rw [e] at hf2
  exact ⟨rfl, FW.chg hbw hf hf2 hc⟩
theorem FW.free {k : Int} {outs : List Int} (h : FW w wr b F) (ok : P52.Ok F n) (hn : n < 90000) (e : P52.free F k = (G, outs)) :
    Calls Try.prog 23 #[.pointer (some ⟨b, 0, none⟩), .int .i64 k] wr fun e w' => ∃ v, e = .returned v ∧ OwnI w' wr.heap.size v outs ∧ FW w w' b G := by
  obtain ⟨S, hf, hbw⟩ := h
  refine (cfFree k _ b F S wr n hf ok hn).mono ?_
  rintro e2 w2 ⟨v, S', rfl, ho, hf2, hc, -⟩
  rw [e] at hf2 ho
  exact ⟨v, rfl, ho, FW.chg hbw hf hf2 hc⟩
theorem FW.ret {k : Int} {ls : List Lock} (h : FW w wr b F) (ok : P52.Ok F n) (hn : n < 90000) (e : P52.retained F k = ls) :
    Calls Try.prog 22 #[.pointer (some ⟨b, 0, none⟩), .int .i64 k] wr fun e w' => ∃ A c, e = .returned (.slice A ls.length c) ∧ FW w w' b F := by
  obtain ⟨S, hf, hbw⟩ := id h
  refine (cfRetained k _ b F S wr n hf ok hn).mono ?_
  rintro e2 w2 ⟨v, rfl, ho, hb⟩
  obtain ⟨A, c, rfl, -, -⟩ := ho.cells
  rw [e]
  exact ⟨A, c, rfl, h.below hb⟩
theorem FW.fast (h : FW w wr b F) (e : F.fast = code) : Calls Try.prog 20 #[.pointer (some ⟨b, 0, none⟩)] wr fun e w' => e = .returned (.int .i64 code) ∧ FW w w' b F := by
  obtain ⟨S, hf, hbw⟩ := id h
  refine (cfFast _ b F S wr hf).mono ?_
  rintro e2 w2 ⟨rfl, rfl⟩
  rw [e]
  exact ⟨rfl, h⟩
theorem FW.names (h : FW w wr b F) : Calls Try.prog 24 #[.pointer (some ⟨b, 0, none⟩)] wr fun e w' => ∃ nb, e = .returned (.pointer (some ⟨nb, 0, none⟩)) ∧ FW w w' b F := by
  obtain ⟨S, hf, hbw⟩ := id h
  refine (cfNames _ b F S wr hf).mono ?_
  rintro e2 w2 ⟨nb, rfl, rfl⟩
  exact ⟨nb, rfl, h⟩
end
set_option maxRecDepth 100000 in
theorem cfMk (u : Int) (w : World) : Calls Try.prog 19 #[.int .i64 u] w fun e w' => e = .returned (lv ⟨u, 200, ⟨[107], [107], false⟩, true⟩) ∧ Below w.heap.size w w' := by
  go_enter Try.func19, Try.ntmps19
  go_wp2
  exact bodyPost_ret (v := lv ⟨u, 200, ⟨[107], [107], false⟩, true⟩) (by simp [results, Try.results19, go_sem, lv]) rfl ⟨rfl, (Below.refl _ _).alloc (Nat.le_refl _) _⟩
set_option maxRecDepth 100000 in
set_option maxHeartbeats 4000000 in
theorem cfAwake (w : World) : Calls Try.prog 5 #[] w fun e w' => e = .returned (.bool true) ∧ Below w.heap.size w w' := by
  have hnp : ∀ (w : World) (p : Option Addr), (binOp .eql 33 (.pointer p) (.pointer none)).run Try.prog w = .ok (.bool (p.isNone)) w := fun w p => by cases p <;> simp [run_eql_pointer_nil w 33 _ (by kernel_rfl : Try.prog.underlying 33 = some (.pointer (Try.prog.pointee 33)))]
  have hnt : ∀ (w : World) (p : Option Addr), (binOp .neq 49 (.pointer p) (.pointer none)).run Try.prog w = .ok (.bool (p.isSome)) w := fun w p => by cases p <;> simp [run_neq_pointer_nil w 49 _ (by kernel_rfl : Try.prog.underlying 49 = some (.pointer (Try.prog.pointee 49)))]
  go_enter Try.func5, Try.ntmps5
  go_wp2_with fail
  refine (cfNew w).mono ?_
  rintro e w1 ⟨b, S, rfl, hf1, hb1⟩
  have HW := Lib.hid (show FW w w1 b P52.fs0 from ⟨S, hf1, hb1⟩)
  clear hf1 hb1
  go_wp2_with fail
  refine (FW.conn HW.out fr1).mono ?_
  rintro e wk ⟨rfl, hk⟩
  replace HW := Lib.hid hk
  clear hk
  go_wp2_with fail
  refine (FW.conn HW.out fr2).mono ?_
  rintro e wk ⟨rfl, hk⟩
  replace HW := Lib.hid hk
  clear hk
  go_wp2_with fail
  refine (cfMk 262145 _).mono ?_
  rintro e wk ⟨rfl, hk⟩
  replace HW := Lib.hid (HW.out.below hk)
  clear hk
  go_wp2_with fail
  refine (FW.req (n := 0) HW.out ok2 (by decide) (by unfold InR; decide) fr3).mono ?_
  rintro e wk ⟨rfl, hk⟩
  replace HW := Lib.hid hk
  clear hk
  go_wp2_with fail
  refine (FW.fast (code := 1) HW.out rfl).mono ?_
  rintro e wk ⟨rfl, hk⟩
  replace HW := Lib.hid hk
  clear hk
  go_wp2_with fail
  refine (FW.fail (k := 1) (G := f4) HW.out ok3 (by decide) rfl).mono ?_
  rintro e wk ⟨rfl, hk⟩
  replace HW := Lib.hid hk
  clear hk
  go_wp2_with fail
  refine (cfMk 327681 _).mono ?_
  rintro e wk ⟨rfl, hk⟩
  replace HW := Lib.hid (HW.out.below hk)
  clear hk
  go_wp2_with fail
  refine (FW.req (n := 1) HW.out ok4 (by decide) (by unfold InR; decide) fr5).mono ?_
  rintro e wk ⟨rfl, hk⟩
  replace HW := Lib.hid hk
  clear hk
  go_wp2_with fail
  refine (FW.fast (code := 1) HW.out rfl).mono ?_
  rintro e wk ⟨rfl, hk⟩
  replace HW := Lib.hid hk
  clear hk
  go_wp2_with fail
  refine (cfMk 262145 _).mono ?_
  rintro e wk ⟨rfl, hk⟩
  replace HW := Lib.hid (HW.out.below hk)
  clear hk
  go_wp2_with fail
  refine (FW.req (n := 2) HW.out ok5 (by decide) (by unfold InR; decide) fr5b).mono ?_
  rintro e wk ⟨rfl, hk⟩
  replace HW := Lib.hid hk
  clear hk
  go_wp2_with fail
  refine (FW.ret (n := 2) HW.out ok5 (by decide) fr5c).mono ?_
  rintro e wk ⟨A9, c9, rfl, hk⟩
  replace HW := Lib.hid hk
  clear hk
  go_wp2_with fail
  refine (FW.free (n := 2) (k := 1) (G := f6) (outs := [327681]) HW.out ok5 (by decide) (Prod.ext rfl fr6)).mono ?_
  rintro e wk ⟨v6, rfl, ho6, hk⟩
  replace HW := Lib.hid hk
  obtain ⟨A6, c6, rfl, hs6, -⟩ := ho6.cells
  obtain ⟨b6, o6, x6, rfl, hx6, hy6⟩ := hs6.at_ (k := 0) (by simp)
  simp at hx6
  subst hx6
  rw [Nat.add_zero] at hy6
  clear ho6 hs6 hk
  go_wp2_with fail
  refine (FW.names HW.out).mono ?_
  rintro e wk ⟨nb, rfl, hk⟩
  replace HW := Lib.hid hk
  clear hk
  go_wp2_with fail
  refine (FW.conn (G := (P52.connect f6 1 1).1) (code := 13) HW.out (Prod.ext rfl fr7)).mono ?_
  rintro e wk ⟨rfl, hk⟩
  replace HW := Lib.hid hk
  clear hk
  -- HERE
  go_wp2
  go_ret
  obtain ⟨S9, -, hbw⟩ := HW.out
  exact ⟨rfl, hbw⟩
end Go.Proofs.Ytjklhiifjnmedaa
namespace Go.Proofs.Ytjklhiifjnmedaa
open Go.RowKit Go.Maps P16 P46

/-- The facility at b and the manager at p, apart from each other. -/
structure D2 (w wr : World) (B b p : Nat) (F : P52.Fs) (S : Nat → Prop) (s : St) (vh vq : Value) : Prop where
  fac : Fac wr B b F S
  mgr : Mgr wr B p s.h s.q vh vq
  dis : ∀ k, S k → ¬ Foot wr p k
  below : Below w.heap.size w wr
  base : w.heap.size ≤ B
  size : B ≤ wr.heap.size
section
variable {w wr w' : World} {B b p : Nat} {F F' : P52.Fs} {S S' : Nat → Prop} {s s' : St} {vh vq vh' vq' : Value}
theorem Mgr.chg_ {h q : List Lock} (m : Mgr wr B p h q vh vq) (c : Chg S S' wr w') (d : ∀ k, S k → ¬ Foot wr p k) : Mgr w' B p h q vh vq :=
  ⟨m.box.chg c (fun hs => d p hs (.inl rfl)), m.base, own_chg m.held c (fun k hk hs => d k hs (m.foot.2 (.inr (.inl hk)))), own_chg m.queue c (fun k hk hs => d k hs (m.foot.2 (.inr (.inr hk)))), m.apart⟩
theorem D2.step1 (d : D2 w wr B b p F S s vh vq) (f' : Fac w' B b F' S') (c : Chg S S' wr w') : D2 w w' B b p F' S' s vh vq := by
  have hm := d.mgr.chg_ c d.dis
  refine ⟨f', hm, fun k hk hf => ?_, d.below.trans ((d.fac.below_ c d.size).mono d.base), d.base, Nat.le_trans d.size c.size⟩
  have hf' : Foot wr p k := d.mgr.foot.2 (hm.foot.1 hf)
  rcases c.sub k hk with h | h
  · exact d.dis k h hf'
  · have := (d.mgr.ge hf').2
    omega
theorem own_moved {Bz size n : Nat} {e : TypeId} {v : Value} {xs : List Value} (ho : wr.ownsRow Bz e size v n xs) (m : Moved p wr w') (hf : ∀ k, v.ownBlock = some k → ¬ Foot wr p k) : w'.ownsRow Bz e size v n xs := by
  refine ⟨ho.1, ?_⟩
  rcases ho.2 with h | ⟨g, cap, cur, rfl, a1, a2, a3⟩
  · exact .inl h
  · exact .inr ⟨g, cap, cur, rfl, a1, (m.block g (Array.getElem?_eq_some_iff.1 a2).1 (hf g (by simp [Value.ownBlock]))).trans a2, a3⟩
theorem D2.step2 (d : D2 w wr B b p F S s vh vq) (m' : Mgr w' B p s'.h s'.q vh' vq') (mv : Moved p wr w') : D2 w w' B b p F S s' vh' vq' := by
  obtain ⟨pf, nb, vhf, vqf, h, hs⟩ := d.fac
  have hd := d.dis
  have hF : FacP w' B b pf nb F vhf vqf := by
    refine ⟨h.box.moved mv (hd b ((hs b).2 (.inl rfl))), ⟨h.mgr.box.moved mv (hd pf ((hs pf).2 (.inr (.inr (.inl rfl))))), h.mgr.base, own_moved h.mgr.held mv (fun k hk => hd k ((hs k).2 (.inr (.inr (h.mgr.foot.2 (.inr (.inl hk))))))), own_moved h.mgr.queue mv (fun k hk => hd k ((hs k).2 (.inr (.inr (h.mgr.foot.2 (.inr (.inr hk))))))), h.mgr.apart⟩, h.nm.moved mv (hd nb ((hs nb).2 (.inr (.inl rfl)))), h.base, h.nbase⟩
  have hfs : ∀ k, FSet w' b pf nb k ↔ FSet wr b pf nb k := fun k => by
    unfold FSet
    rw [h.mgr.foot, hF.mgr.foot]
  refine ⟨⟨pf, nb, vhf, vqf, hF, fun k => (hs k).trans (hfs k).symm⟩, m', fun k hk hf => ?_, d.below.trans ((mv.below (fun k hk => (d.mgr.ge hk).1) d.size).mono d.base), d.base, Nat.le_trans d.size mv.size⟩
  rcases mv.foot k hf with h1 | h1
  · exact hd k hk h1
  · have := (d.fac.ge hk).2
    omega
theorem D2.below_ (d : D2 w wr B b p F S s vh vq) (hb : Below wr.heap.size wr w') : D2 w w' B b p F S s vh vq :=
  ⟨d.fac.below hb, d.mgr.below hb, fun k hk hf => d.dis k hk (d.mgr.foot.2 ((d.mgr.below hb).foot.1 hf)), d.below.trans (hb.mono d.below.size), d.base, Nat.le_trans d.size hb.size⟩
end
/-- The last two bits of a number. -/
theorem and3 (x : Int) : ∃ y : Int, bits .and .i64 x 3 = y ∧ 0 ≤ y ∧ y ≤ 3 := by
  refine ⟨((BitVec.ofInt 64 x &&& BitVec.ofInt 64 3).toNat : Int), ?_, by omega, ?_⟩
  · show IntKind.i64.wrap ((BitVec.ofInt 64 x &&& BitVec.ofInt 64 3).toNat : Int) = _
    have h : (BitVec.ofInt 64 x &&& BitVec.ofInt 64 3).toNat ≤ 3 := by
      rw [BitVec.toNat_and]
      exact Nat.and_le_right
    rw [IntKind.wrap_i64]
    omega
  · have h : (BitVec.ofInt 64 x &&& BitVec.ofInt 64 3).toNat ≤ 3 := by
      rw [BitVec.toNat_and]
      exact Nat.and_le_right
    omega
end Go.Proofs.Ytjklhiifjnmedaa
namespace Go.Proofs.Ytjklhiifjnmedaa
open Go.RowKit Go.Maps P16 P46
attribute [local go_sem] ByteArray.mk_append_mk ByteArray.extract_mk mk_index

theorem few_len {xs : List ActL} {m : Int} (h : fewA xs m = true) : (xs.length : Int) ≤ m := by
  unfold fewA at h
  simp only [Bool.and_eq_true, decide_eq_true_eq] at h
  exact h.1
theorem Mgr.mono {w : World} {B C p : Nat} {h q : List Lock} {vh vq : Value} (m : Mgr w B p h q vh vq) (hc : C ≤ B) : Mgr w C p h q vh vq :=
  ⟨m.box, Nat.le_trans hc m.base, m.held.base hc, m.queue.base hc, m.apart⟩
theorem conn_step {j : Nat} (h : j < 4) : P52.connect (P52.conn1 j) ((j : Int) + 1) 1 = (P52.conn1 (j + 1), 0) := by
  have := P52.conn1_next h
  rwa [show (((j + 1 : Nat) : Int)) = (j : Int) + 1 from by simp] at this
theorem ok_conn1 (n : Nat) : P52.Ok (P52.conn1 n) 0 := ⟨P46.good_nil, ⟨(fun l hl => by cases hl), (fun l hl => by cases hl)⟩, by simp [P52.conn1], by simp [P52.conn1], by simp [P52.conn1]⟩
theorem grantGo_out2 : ∀ (rest h pre : List Lock) (out : List Int), (grantGo h pre rest out).2.length + (grantGo h pre rest out).1.q.length = out.length + pre.length + rest.length := grantGo_out
theorem cancel_outs (F : P52.Fs) (u : Int) {n : Nat} (h : F.s.h.length + F.s.q.length ≤ n) : (P52.cancel F u).2.length ≤ n := by
  show (grantGo F.s.h [] (drop F.s.q u) []).2.length ≤ n
  have h1 := grantGo_out (drop F.s.q u) F.s.h [] []
  have h2 := P52.drop_len F.s.q u
  simp at h1
  omega
theorem release_outs (F : P52.Fs) (u : Int) {n : Nat} (h : F.s.h.length + F.s.q.length ≤ n) : (P52.release F u).2.length ≤ n := by
  have h1 := release_out F.s u
  show (P46.release F.s u).2.length ≤ n
  omega
def unitA (a : ActL) (u : Int) : ActL := ⟨a.kind, a.a, a.b, ⟨u, a.l.id, a.l.r, a.l.x⟩⟩
set_option maxRecDepth 100000 in
set_option maxHeartbeats 8000000 in
theorem lawDecides (A : Option Addr) (n c : Nat) (xs : List ActL) (w : World) (ha : ActsAt w A n xs) (hn : n ≤ maxLen) (_hu : ∀ a ∈ xs, ActOk a) :
    Calls Try.prog 4 #[.slice A n c] w fun e w' => e = .returned (.bool true) ∧ Below w.heap.size w w' := by
  have HA := Lib.hid ha
  have HL := Lib.hid ha.len
  clear ha
  have hlenA : (Try.prog.info? 40).map (·.size) = some 9 := by kernel_rfl
  have hnp : ∀ (w : World) (p : Option Addr), (binOp .eql 33 (.pointer p) (.pointer none)).run Try.prog w = .ok (.bool (p.isNone)) w := fun w p => by cases p <;> simp [run_eql_pointer_nil w 33 _ (by kernel_rfl : Try.prog.underlying 33 = some (.pointer (Try.prog.pointee 33)))]
  have hnm : ∀ (w : World) (p : Option Addr), (binOp .eql 35 (.pointer p) (.pointer none)).run Try.prog w = .ok (.bool (p.isNone)) w := fun w p => by cases p <;> simp [run_eql_pointer_nil w 35 _ (by kernel_rfl : Try.prog.underlying 35 = some (.pointer (Try.prog.pointee 35)))]
  cases hf : fewA xs 50 with
  | false =>
    have HF := Lib.hid hf
    clear hf
    go_enter Try.func4, Try.ntmps4
    go_wp2_with (first | (go_at_call 9; refine (cfFew 50 A n c xs w HA.out hn).mono ?_; rintro e w1 ⟨rfl, hb1⟩; rw [HF.out]; have HB1 := Lib.hid hb1; clear hb1) | (go_at_call 5; refine (cfAwake _).mono ?_; rintro e w2 ⟨rfl, hb2⟩; have HB2 := Lib.hid (below_then HB1.out hb2); clear hb2))
    go_ret
    exact ⟨rfl, HB2.out⟩
  | true =>
    have HF := Lib.hid hf
    have hn50 : n ≤ 50 := by have h := few_len hf; rw [HL.out] at h; omega
    clear hf
    go_enter Try.func4, Try.ntmps4
    go_wp2_with (first | (go_at_call 9; refine (cfFew 50 A n c xs w HA.out hn).mono ?_; rintro e w1 ⟨rfl, hb1⟩; rw [HF.out]; have HB1 := Lib.hid hb1; clear hb1) | (go_at_call 10; refine (cfNew w1).mono ?_; rintro e w2 ⟨b, S2, rfl, hf2, hb2⟩; have HF2 := Lib.hid hf2; have HB2 := Lib.hid hb2; clear hf2 hb2) | (go_at_call 11; refine (lkNew none 0 0 [] w2 LocksAt.nil (by omega)).mono ?_; rintro e w3 ⟨p, vh3, rfl, hm3, hb3⟩; have HD3 := Lib.hid (show D2 w w3 w1.heap.size b p (P52.conn1 0) S2 ⟨[], []⟩ vh3 (.slice none 0 0) from ⟨by rw [P52.conn1_zero]; exact HF2.out.below hb3, hm3.mono HB2.out.size, fun k hk hfk => (by have h1 := (HF2.out.ge hk).2; have h2 := (hm3.ge hfk).1; omega), below_then (below_then HB1.out HB2.out) hb3, HB1.out.size, Nat.le_trans HB2.out.size hb3.size⟩); clear hm3 hb3))
    obtain ⟨B, hB⟩ : ∃ B, w1.heap.size = B := ⟨_, rfl⟩
    rw [hB] at HD3
    clear hB
    go_loopw [5] (fun i wr => ∃ (j : Nat) (S : Nat → Prop) (vh vq : Value), j ≤ 4 ∧ i = .int .i64 (j + 1) ∧ D2 w wr B b p (P52.conn1 j) S ⟨[], []⟩ vh vq) (fun i _ => 6 - (intOf i).toNat)
    case atStart => exact ⟨0, S2, _, _, by omega, by simp, HD3.out⟩
    case round =>
      obtain ⟨j, S4, vh4, vq4, hj, rfl, hd4⟩ := hrel
      have HD4 := Lib.hid hd4
      clear hd4
      by_cases hlt : j < 4
      · have HCN := Lib.hid (conn_step hlt)
        go_wp2_with (go_at_call 12; refine (cfConnect ((j : Int) + 1) 1 B b _ S4 wr HD4.out.fac).mono ?_; rintro e w5 ⟨S5, rfl, hf5, hc5⟩; rw [HCN.out] at hf5 ⊢; have HD5 := Lib.hid (HD4.out.step1 hf5 hc5); clear hf5 hc5)
        go_roundw
        case rel => exact ⟨j + 1, S5, _, _, by omega, by go_num, HD5.out⟩
        case measure => simp [intOf]; omega
      · have hj4 : j = 4 := by omega
        subst hj4
        rw [show (((4 : Nat) : Int) + 1) = 5 from rfl]
        go_wp2
        have HD6 := Lib.hid (show D2 w wr B b p (P52.conn1 4) S4 (P52.conn1 4).s vh4 vq4 from HD4.out)
        clear HD4
        obtain ⟨w9, hw9⟩ : ∃ w9, w9 = wr := ⟨_, rfl⟩
        subst hw9
        go_loopw [30] (fun i wr => ∃ (k : Nat) (F : P52.Fs) (S : Nat → Prop) (vh vq : Value), k ≤ n ∧ i = .int .i64 k ∧ P52.All1 F ∧ P52.Ok F k ∧ D2 w wr B b p F S F.s vh vq) (fun i _ => n - (intOf i).toNat)
        case atStart => exact ⟨0, _, S4, _, _, Nat.zero_le _, rfl, P52.conn1_all, ok_conn1 4, HD6.out⟩
        case round =>
          obtain ⟨k, F, S, vh7, vq7, hk, rfl, hall, hok, hd7⟩ := hrel
          have HALL := Lib.hid hall
          have HOK := Lib.hid hok
          have HD7 := Lib.hid hd7
          clear hall hok hd7
          by_cases hlt2 : k < n
          · have hs := HA.out.below HD7.out.below
            obtain ⟨ba, off, a, rfl, hx⟩ := hs.at_ hlt2
            have HR := Lib.hid (hs.row hx)
            clear hs hx
            go_upto_region 14 with (refine wpList_load_cells rfl 40 (.tmp 32) rfl ⟨ba, off + k * 9, none⟩ rfl _ _ HR.out Try.underlying40 rfl hlenA ?_)
            obtain ⟨w4, g4, e1, e2, hb4, h4⟩ := boxes1 wr 40 (aa a)
            unfold aa at e1
            rw [e1, e2]
            obtain ⟨a0, a1, a2, a3, -, -, -, -, -⟩ := acells h4
            have hf3 := h4.frozen 3
            have hlt4 := h4.lt
            obtain ⟨x, hx, hx0, hx3⟩ := and3 a.a
            obtain ⟨y, hy, hy0, hy3⟩ := and3 a.b
            have HX4 := Lib.hid h4
            have HB4 := Lib.hid hb4
            have HG4 := Lib.hid (show wr.heap.size ≤ g4 from by omega)
            clear e1 e2 hb4 h4
            go_upto_region 15 with (fail)
            obtain ⟨u, hu⟩ : ∃ u, (4 + x) * 65536 + 1 + y = u := ⟨_, rfl⟩
            rw [hu]
            have HPR := Lib.hid (HALL.out.pres ⟨hx0, hx3⟩ ⟨hy0, hy3⟩)
            rw [hu] at HPR
            have HUR := Lib.hid (show InR u from by unfold InR; omega)
            have HX5 := Lib.hid (show Blk (w4.setCell ⟨g4, 3, none⟩ (.int .i64 u)) g4 40 (aa (unitA a u)) from by simpa [aa, unitA] using HX4.out.put 3 (.int .i64 u))
            have HB5 := Lib.hid (HB4.out.setCell (p := ⟨g4, 3, none⟩) HG4.out (.int .i64 u))
            clear hu a0 a1 a2 a3 hf3 hlt4 hx hy hx0 hx3 hy0 hy3
            generalize w4.setCell ⟨g4, 3, none⟩ (.int .i64 u) = w5 at HX5 HB5 ⊢
            have HD5 := Lib.hid (HD7.out.below_ HB5.out)
            obtain ⟨a0, a1, a2, a3, a4, a5, a6, a7, a8⟩ := acells HX5.out
            have HGN := Lib.hid (show ∀ (S' : Nat → Prop), (∀ x, S' x → x < wr.heap.size) → ¬ S' g4 from fun S' h hs => by have h1 := h g4 hs; have h2 := HG4.out; omega)
            have HSN := Lib.hid (show ¬ S g4 from HGN.out S (fun x hx => (HD7.out.fac.ge hx).2))
            have HFN := Lib.hid (show ¬ Foot w5 p g4 from fun hfk => by have h1 := HD7.out.mgr.foot.2 (HD5.out.mgr.foot.1 hfk); have h2 := (HD7.out.mgr.ge h1).2; have h3 := HG4.out; omega)
            obtain ⟨kd, hkd⟩ : ∃ kd, a.kind.tmod 6 = kd := ⟨_, rfl⟩
            unfold unitA at a0 a1 a2 a3 a4 a5 a6 a7 a8
            dsimp only at a0 a1 a2 a3 a4 a5 a6 a7 a8
            by_cases k4 : kd = 4
            · have b4 : (a.kind.tmod 6 == 4) = true := by rw [hkd]; exact beq_of k4
              clear hkd k4
              go_upto_region 19 with (fail)
              go_region_with (first
                | (go_at_call 13; first
                  | (refine (cfCancel u B b F S _ k (HD5.out.below_ (below_drewN (Below.refl _ _) 1)).fac HOK.out (by omega)).mono ?_; rintro e w7 ⟨v7, S7, rfl, ho7, hf7, hc7, hn7⟩; have HD7b := Lib.hid ((HD5.out.below_ (below_drewN (Below.refl _ _) 1)).step1 hf7 hc7); obtain ⟨A7, c7, rfl, hs7, -⟩ := ho7.cells; have HO7 := Lib.hid ho7; have HX7 := Lib.hid ((HX5.out.below (below_drewN (Below.refl _ _) 1)).chg hc7 HSN.out); have e3 := (acells HX7.out).2.2.2.1; unfold unitA at e3; dsimp only at e3; clear ho7 hf7 hc7 hn7 hs7)
                  | (refine (cfCancel u B b F S _ k HD8.out.fac HOK.out (by omega)).mono ?_; rintro e w9 ⟨v9, S9, rfl, ho9, hf9, hc9, hn9⟩; have HD9 := Lib.hid (HD8.out.step1 hf9 hc9); have HO8b := Lib.hid (show OwnI w9 _ _ _ from own_chg HO8.out hc9 (fun z hz hsz => by have h1 := (HO8.out.lt z hz).1; have h2 := (HD5.out.fac.ge hsz).2; simp at h1; omega)); obtain ⟨A9, c9, rfl, hs9, -⟩ := ho9.cells; have HO9 := Lib.hid ho9; clear ho9 hf9 hc9 hn9 hs9))
                | (go_at_call 14; first
                  | (refine (lkCancel u B p F.s.h F.s.q vh7 vq7 _ HD7b.out.mgr (by have h := HOK.out.len; omega) HOK.out.valids).mono ?_; rintro e w9 ⟨v9, vh9, vq9, rfl, ho9, hm9, hv9, hn9⟩; have HD9 := Lib.hid (HD7b.out.step2 (s' := (P46.cancel F.s u).1) hm9 hv9); have HO7b := Lib.hid (show OwnI w9 _ _ _ from own_moved HO7.out hv9 (fun z hz hfz => by have h1 := (HO7.out.lt z hz).1; have h2 := HD5.out.mgr.foot.2 (HD7b.out.mgr.foot.1 hfz); have h3 := (HD5.out.mgr.ge h2).2; simp at h1; omega)); obtain ⟨A9, c9, rfl, hs9, -⟩ := ho9.cells; have HO9 := Lib.hid ho9; clear ho9 hm9 hv9 hn9 hs9)
                  | (refine (lkCancel u B p F.s.h F.s.q vh7 vq7 _ (HD5.out.below_ (below_drewN (Below.refl _ _) 1)).mgr (by have h := HOK.out.len; omega) HOK.out.valids).mono ?_; rintro e w8 ⟨v8, vh8, vq8, rfl, ho8, hm8, hv8, hn8⟩; have HD8 := Lib.hid ((HD5.out.below_ (below_drewN (Below.refl _ _) 1)).step2 (s' := (P46.cancel F.s u).1) hm8 hv8); obtain ⟨A8, c8, rfl, hs8, -⟩ := ho8.cells; have HO8 := Lib.hid ho8; have HX8 := Lib.hid ((HX5.out.below (below_drewN (Below.refl _ _) 1)).moved hv8 (fun hfk => HFN.out hfk)); have e3 := (acells HX8.out).2.2.2.1; unfold unitA at e3; dsimp only at e3; clear ho8 hm8 hv8 hn8 hs8))
                | (go_at_call 6; first
                  | (refine (refInts _ _ _ _ _ _ _ _ w9 HO7b.out.reads52.1 HO9.out.reads52.1 (by have h := cancel_outs F u HOK.out.len; omega)).mono ?_; rintro e wc ⟨rfl, hbc⟩; rw [decide_eq_true (show (P52.cancel F u).2 = (P46.cancel ⟨F.s.h, F.s.q⟩ u).2 from rfl)]; have HDC := Lib.hid (HD9.out.below_ hbc); clear hbc)
                  | (refine (refInts _ _ _ _ _ _ _ _ w9 HO9.out.reads52.1 HO8b.out.reads52.1 (by have h := cancel_outs F u HOK.out.len; omega)).mono ?_; rintro e wc ⟨rfl, hbc⟩; rw [decide_eq_true (show (P52.cancel F u).2 = (P46.cancel ⟨F.s.h, F.s.q⟩ u).2 from rfl)]; have HDC := Lib.hid (HD9.out.below_ hbc); clear hbc)))
              all_goals
                go_wp2
                go_roundw
                case rel => exact ⟨k + 1, (P52.cancel F u).1, _, _, _, by omega, by go_num, HALL.out.withS _, (HOK.out.cancel u).mono (by omega), HDC.out⟩
                case measure => simp [intOf]; omega
            · by_cases k5 : kd = 5
              · have b4 : (a.kind.tmod 6 == 4) = false := by rw [hkd]; exact beq_not k4
                have b5 : (a.kind.tmod 6 == 5) = true := by rw [hkd]; exact beq_of k5
                clear hkd k4 k5
                go_upto_region 22 with (fail)
                go_region_with (first
                  | (go_at_call 15; first
                    | (refine (cfRelease u B b F S _ k (HD5.out.below_ (below_drewN (Below.refl _ _) 1)).fac HOK.out (by omega)).mono ?_; rintro e w7 ⟨v7, S7, rfl, ho7, hf7, hc7, hn7⟩; have HD7b := Lib.hid ((HD5.out.below_ (below_drewN (Below.refl _ _) 1)).step1 hf7 hc7); obtain ⟨A7, c7, rfl, hs7, -⟩ := ho7.cells; have HO7 := Lib.hid ho7; have HX7 := Lib.hid ((HX5.out.below (below_drewN (Below.refl _ _) 1)).chg hc7 HSN.out); have e3 := (acells HX7.out).2.2.2.1; unfold unitA at e3; dsimp only at e3; clear ho7 hf7 hc7 hn7 hs7)
                    | (refine (cfRelease u B b F S _ k HD8.out.fac HOK.out (by omega)).mono ?_; rintro e w9 ⟨v9, S9, rfl, ho9, hf9, hc9, hn9⟩; have HD9 := Lib.hid (HD8.out.step1 hf9 hc9); have HO8b := Lib.hid (show OwnI w9 _ _ _ from own_chg HO8.out hc9 (fun z hz hsz => by have h1 := (HO8.out.lt z hz).1; have h2 := (HD5.out.fac.ge hsz).2; simp at h1; omega)); obtain ⟨A9, c9, rfl, hs9, -⟩ := ho9.cells; have HO9 := Lib.hid ho9; clear ho9 hf9 hc9 hn9 hs9))
                  | (go_at_call 16; first
                    | (refine (lkRelease u B p F.s.h F.s.q vh7 vq7 _ HD7b.out.mgr (by have h := HOK.out.len; omega) HOK.out.valids).mono ?_; rintro e w9 ⟨v9, vh9, vq9, rfl, ho9, hm9, hv9, hn9⟩; have HD9 := Lib.hid (HD7b.out.step2 (s' := (P46.release F.s u).1) hm9 hv9); have HO7b := Lib.hid (show OwnI w9 _ _ _ from own_moved HO7.out hv9 (fun z hz hfz => by have h1 := (HO7.out.lt z hz).1; have h2 := HD5.out.mgr.foot.2 (HD7b.out.mgr.foot.1 hfz); have h3 := (HD5.out.mgr.ge h2).2; simp at h1; omega)); obtain ⟨A9, c9, rfl, hs9, -⟩ := ho9.cells; have HO9 := Lib.hid ho9; clear ho9 hm9 hv9 hn9 hs9)
                    | (refine (lkRelease u B p F.s.h F.s.q vh7 vq7 _ (HD5.out.below_ (below_drewN (Below.refl _ _) 1)).mgr (by have h := HOK.out.len; omega) HOK.out.valids).mono ?_; rintro e w8 ⟨v8, vh8, vq8, rfl, ho8, hm8, hv8, hn8⟩; have HD8 := Lib.hid ((HD5.out.below_ (below_drewN (Below.refl _ _) 1)).step2 (s' := (P46.release F.s u).1) hm8 hv8); obtain ⟨A8, c8, rfl, hs8, -⟩ := ho8.cells; have HO8 := Lib.hid ho8; have HX8 := Lib.hid ((HX5.out.below (below_drewN (Below.refl _ _) 1)).moved hv8 (fun hfk => HFN.out hfk)); have e3 := (acells HX8.out).2.2.2.1; unfold unitA at e3; dsimp only at e3; clear ho8 hm8 hv8 hn8 hs8))
                  | (go_at_call 6; first
                    | (refine (refInts _ _ _ _ _ _ _ _ w9 HO7b.out.reads52.1 HO9.out.reads52.1 (by have h := release_outs F u HOK.out.len; omega)).mono ?_; rintro e wc ⟨rfl, hbc⟩; rw [decide_eq_true (show (P52.release F u).2 = (P46.release ⟨F.s.h, F.s.q⟩ u).2 from rfl)]; have HDC := Lib.hid (HD9.out.below_ hbc); clear hbc)
                    | (refine (refInts _ _ _ _ _ _ _ _ w9 HO9.out.reads52.1 HO8b.out.reads52.1 (by have h := release_outs F u HOK.out.len; omega)).mono ?_; rintro e wc ⟨rfl, hbc⟩; rw [decide_eq_true (show (P52.release F u).2 = (P46.release ⟨F.s.h, F.s.q⟩ u).2 from rfl)]; have HDC := Lib.hid (HD9.out.below_ hbc); clear hbc)))
                all_goals
                  go_wp2
                  go_roundw
                  case rel => exact ⟨k + 1, (P52.release F u).1, _, _, _, by omega, by go_num, HALL.out.withS _, (HOK.out.release u).mono (by omega), HDC.out⟩
                  case measure => simp [intOf]; omega
              · have b4 : (a.kind.tmod 6 == 4) = false := by rw [hkd]; exact beq_not k4
                have b5 : (a.kind.tmod 6 == 5) = false := by rw [hkd]; exact beq_not k5
                clear hkd k4 k5
                have HAR := Lib.hid (HALL.out.request (l := ⟨u, a.l.id, a.l.r, a.l.x⟩) HPR.out.1 HPR.out.2)
                obtain ⟨X, hX⟩ : ∃ X : Lock, X = ⟨u, a.l.id, a.l.r, a.l.x⟩ := ⟨_, rfl⟩
                rw [← hX] at HAR
                have HXE := Lib.hid hX
                have HXI := Lib.hid (show InR X.unit from by rw [hX]; exact HUR.out)
                have HLV := Lib.hid (show lv X = .agg #[.int .i64 u, .int .i64 a.l.id, .string ⟨a.l.r.low.toArray⟩, .string ⟨a.l.r.high.toArray⟩, .bool a.l.r.e, .bool a.l.x] from by rw [hX]; rfl)
                clear hX
                have CRF := Lib.hid (fun (W : World) (S' : Nat → Prop) (hfW : Fac W B b F S') => (show Calls Try.prog 17 #[.pointer (some ⟨b, 0, none⟩), .agg #[.int .i64 u, .int .i64 a.l.id, .string ⟨a.l.r.low.toArray⟩, .string ⟨a.l.r.high.toArray⟩, .bool a.l.r.e, .bool a.l.x]] W (CPost W B b S' (P52.request F X).1 (P52.request F X).2) from by rw [← HLV.out]; exact cfRequest X HXI.out B b F S' W k hfW HOK.out (by omega)))
                have CRM := Lib.hid (fun (W : World) (vh vq : Value) (hmW : Mgr W B p F.s.h F.s.q vh vq) => (show Calls Try.prog 18 #[.pointer (some ⟨p, 0, none⟩), .agg #[.int .i64 u, .int .i64 a.l.id, .string ⟨a.l.r.low.toArray⟩, .string ⟨a.l.r.high.toArray⟩, .bool a.l.r.e, .bool a.l.x]] W (RPost W B p (P46.request F.s X).1 (P46.request F.s X).2) from by rw [← HLV.out]; exact lkRequest X B p F.s.h F.s.q vh vq W hmW (by have h := HOK.out.len; omega) HOK.out.good HOK.out.valids))
                go_upto_region 16 with (fail)
                go_region_with (first
                  | (go_at_call 17; first
                    | (refine (CRF.out _ S (HD5.out.below_ (below_drewN (Below.refl _ _) 1)).fac).mono ?_; rintro e w7 ⟨S7, rfl, hf7, hc7⟩; rw [HAR.out.2.1]; have HD7b := Lib.hid ((HD5.out.below_ (below_drewN (Below.refl _ _) 1)).step1 hf7 hc7); have HX7 := Lib.hid ((HX5.out.below (below_drewN (Below.refl _ _) 1)).chg hc7 HSN.out); obtain ⟨f0, f1, f2, f3, f4, f5, f6, f7, f8⟩ := acells HX7.out; unfold unitA at f3 f4 f5 f6 f7 f8; dsimp only at f3 f4 f5 f6 f7 f8; clear hf7 hc7)
                    | (refine (CRF.out _ S HD8.out.fac).mono ?_; rintro e w9 ⟨S9, rfl, hf9, hc9⟩; rw [HAR.out.2.1]; have HD9 := Lib.hid (HD8.out.step1 hf9 hc9); clear hf9 hc9))
                  | (go_at_call 18; first
                    | (refine (CRM.out _ vh7 vq7 HD7b.out.mgr).mono ?_; rintro e w9 ⟨vh9, vq9, rfl, hm9, hv9⟩; have HD9 := Lib.hid (HD7b.out.step2 hm9 hv9); clear hm9 hv9)
                    | (refine (CRM.out _ vh7 vq7 (HD5.out.below_ (below_drewN (Below.refl _ _) 1)).mgr).mono ?_; rintro e w8 ⟨vh8, vq8, rfl, hm8, hv8⟩; have HD8 := Lib.hid ((HD5.out.below_ (below_drewN (Below.refl _ _) 1)).step2 hm8 hv8); have HX8 := Lib.hid ((HX5.out.below (below_drewN (Below.refl _ _) 1)).moved hv8 (fun hfk => HFN.out hfk)); obtain ⟨f0, f1, f2, f3, f4, f5, f6, f7, f8⟩ := acells HX8.out; unfold unitA at f3 f4 f5 f6 f7 f8; dsimp only at f3 f4 f5 f6 f7 f8; clear hm8 hv8)))
                all_goals
                  go_wp2
                  go_roundw
                  case rel => exact ⟨k + 1, (P52.request F X).1, _, _, _, by omega, by go_num, HAR.out.2.2, HOK.out.request X, by rw [HAR.out.1]; exact HD9.out⟩
                  case measure => simp [intOf]; omega
          · have hkn : k = n := by omega
            subst hkn
            go_wp2_with (go_at_call 5; refine (cfAwake _).mono ?_; rintro e wz ⟨rfl, hbz⟩; have HBZ := Lib.hid (below_then_ HD7.out.below hbz (by have h1 := HD7.out.base; have h2 := HD7.out.size; omega)); clear hbz)
            go_ret
            exact ⟨rfl, HBZ.out⟩
end Go.Proofs.Ytjklhiifjnmedaa
