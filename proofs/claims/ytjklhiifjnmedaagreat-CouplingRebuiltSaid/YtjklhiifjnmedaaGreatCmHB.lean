/- The example of the chapter. Words that the laws on acts share. CouplingRebuilt: a facility that is lost and rebuilt from what its systems export has the same locks. -/
import Derived.Test.YtjklhiifjnmedaaGreatCmF
import Derived.Laws.Pointers
import Derived.Test.YtjklhiifjnmedaaGreatCmS
import Derived.Test.YtjklhiifjnmedaaGreatCmR
import Derived.Test.YtjklhiifjnmedaaGreatCmG
import Derived.Test.YtjklhiifjnmedaaGreatKill
import Derived.Test.YtjklhiifjnmedaaGreatReach
namespace Go.Proofs.YtjklhiifjnmedaaGreat
open Go.RowKit Go.Maps P16 P46
attribute [local go_sem] ByteArray.mk_append_mk ByteArray.extract_mk mk_index

def hasB (s : St) (u : Int) : Bool := (s.h.any fun l => decide (l.unit = u)) || s.q.any fun l => decide (l.unit = u)
theorem hasB_iff {s : St} {u : Int} : hasB s u = true ↔ Has s u := by
  unfold hasB Has
  simp [List.any_eq_true]
def askN (s : St) (l : Lock) : Option (St × Int) := if blks s.h s.q l = [] then some (⟨s.h ++ [l], s.q⟩, 0) else if hasB s l.unit = true then none else some (⟨s.h, s.q ++ [l]⟩, 15)
theorem ask_of {s : St} {l : Lock} {r : St × Int} (h : askN s l = some r) : P46.ask s l = r := by
  unfold askN at h
  unfold P46.ask
  split at h
  · rename_i hb
    rw [if_pos hb]
    injection h
  · rename_i hb
    rw [if_neg hb]
    split at h
    · cases h
    · rename_i hh
      injection h with h
      rw [if_neg, h]
      intro hr
      obtain ⟨b, hb1, hb2⟩ := reaches_iff.1 hr
      rcases reach_has hb2 with rfl | h'
      · exact blks_ne hb1 rfl
      · exact hh (hasB_iff.2 h')
def requestN (s : St) (l : Lock) : Option (St × Int) :=
  if validL l = false then some (s, 1)
  else if covered s.h l = true then some (s, 0)
  else match idx s.q l.unit with
  | some i => if s.q[i]? = some l then some (s, 15) else askN (cancel s l.unit).1 l
  | none => askN s l
theorem request_of {s : St} {l : Lock} {r : St × Int} (h : requestN s l = some r) : P46.request s l = r := by
  unfold requestN at h
  unfold P46.request
  split at h
  · rename_i h1
    rw [if_pos h1]
    injection h
  · rename_i h1
    rw [if_neg h1]
    split at h
    · rename_i h2
      rw [if_pos h2]
      injection h
    · rename_i h2
      rw [if_neg h2]
      split at h
      · rename_i i hi
        rw [hi]
        dsimp only
        split at h
        · rename_i h3
          rw [if_pos h3]
          injection h
        · rename_i h3
          rw [if_neg h3]
          exact ask_of h
      · rename_i hi
        rw [hi]
        exact ask_of h
def fRequestN (F : P52.Fs) (l : Lock) : Option (P52.Fs × Int) :=
  if validL l = false ∨ P52.sysOf l.unit = 0 then some (F, 1)
  else if P52.pres F l.unit = false then some (F, 13)
  else if F.lost = true then some (F, 9)
  else match requestN F.s l with
  | some r => some (⟨F.ep, F.cn, r.1, F.lost, if P52.aloneB (F.s.h ++ F.s.q) l (P52.sysOf l.unit) = true then F.fast + 1 else F.fast⟩, r.2)
  | none => none
theorem fRequest_of {F : P52.Fs} {l : Lock} {r : P52.Fs × Int} (h : fRequestN F l = some r) : P52.request F l = r := by
  unfold fRequestN at h
  unfold P52.request
  by_cases h1 : validL l = false ∨ P52.sysOf l.unit = 0
  · rw [if_pos h1] at h ⊢
    exact Option.some.inj h
  · rw [if_neg h1] at h ⊢
    by_cases h2 : P52.pres F l.unit = false
    · rw [if_pos h2] at h ⊢
      exact Option.some.inj h
    · rw [if_neg h2] at h ⊢
      by_cases h3 : F.lost = true
      · rw [if_pos h3] at h ⊢
        exact Option.some.inj h
      · rw [if_neg h3] at h ⊢
        cases hr : requestN F.s l with
        | none =>
          rw [hr] at h
          cases h
        | some q =>
          rw [hr] at h
          rw [request_of hr]
          exact Option.some.inj h
abbrev Ka : Lock := ⟨262145, 200, ⟨[107], [107], false⟩, true⟩
abbrev Kb : Lock := ⟨327681, 200, ⟨[107], [107], false⟩, true⟩
def f1 : P52.Fs := (P52.connect P52.fs0 1 1).1
def f2 : P52.Fs := (P52.connect f1 2 1).1
def f3 : P52.Fs := ⟨f2.ep, f2.cn, ⟨[Ka], []⟩, false, 1⟩
def f4 : P52.Fs := P52.fail f3 1
def f5 : P52.Fs := ⟨f4.ep, f4.cn, ⟨[Ka], [Kb]⟩, false, 1⟩
def f6 : P52.Fs := (P52.free f5 1).1
theorem fr1 : P52.connect P52.fs0 1 1 = (f1, 0) := rfl
theorem fr2 : P52.connect f1 2 1 = (f2, 0) := rfl
theorem fr3 : P52.request f2 Ka = (f3, 0) := fRequest_of (by rfl)
theorem fr5 : P52.request f4 Kb = (f5, 15) := fRequest_of (by rfl)
theorem fr5b : P52.request f5 Ka = (f5, 13) := fRequest_of (by rfl)
theorem fr5c : P52.retained f5 1 = [Ka] := by rfl
theorem fr6 : (P52.free f5 1).2 = [327681] := by rfl
theorem fr7 : (P52.connect f6 1 1).2 = 13 := by rfl
theorem ok1 : P52.Ok f1 0 := P52.ok0.connect 1 1
theorem ok2 : P52.Ok f2 0 := ok1.connect 2 1
theorem ok3 : P52.Ok f3 1 := by have h := ok2.request Ka; rw [fr3] at h; exact h
theorem ok4 : P52.Ok f4 1 := ok3.fail 1
theorem ok5 : P52.Ok f5 2 := by have h := ok4.request Kb; rw [fr5] at h; exact h
/-- The example under way. -/
def FW (w wr : World) (b : Nat) (F : P52.Fs) : Prop := ∃ S, Fac wr w.heap.size b F S ∧ Below w.heap.size w wr
section
variable {w wr w' : World} {b n : Nat} {F G : P52.Fs} {S S' : Nat → Prop} {code : Int}
theorem FW.below (h : FW w wr b F) (hb : Below wr.heap.size wr w') : FW w w' b F := by
  obtain ⟨S, hf, hbw⟩ := h
  exact ⟨S, hf.below hb, hbw.trans (hb.mono hbw.size)⟩
theorem FW.chg (hbw : Below w.heap.size w wr) (hf : Fac wr w.heap.size b F S) (hf' : Fac w' w.heap.size b G S') (c : Chg S S' wr w') : FW w w' b G :=
  ⟨S', hf', hbw.trans (hf.below_ c hbw.size)⟩
theorem FW.req {l : Lock} (h : FW w wr b F) (ok : P52.Ok F n) (hn : n < 90000) (hu : InR l.unit) (e : P52.request F l = (G, code)) :
    Calls Tryz.prog 16 #[.pointer (some ⟨b, 0, none⟩), lv l] wr fun e w' => e = .returned (.int .i64 code) ∧ FW w w' b G := by
  obtain ⟨S, hf, hbw⟩ := h
  refine (cfRequest l hu _ b F S wr n hf ok hn).mono ?_
  rintro e2 w2 ⟨S', rfl, hf2, hc⟩
  rw [e] at hf2 ⊢
  exact ⟨rfl, FW.chg hbw hf hf2 hc⟩
theorem FW.conn {k ep : Int} (h : FW w wr b F) (e : P52.connect F k ep = (G, code)) :
    Calls Tryz.prog 15 #[.pointer (some ⟨b, 0, none⟩), .int .i64 k, .int .i64 ep] wr fun e w' => e = .returned (.int .i64 code) ∧ FW w w' b G := by
  obtain ⟨S, hf, hbw⟩ := h
  refine (cfConnect k ep _ b F S wr hf).mono ?_
  rintro e2 w2 ⟨S', rfl, hf2, hc⟩
  rw [e] at hf2 ⊢
  exact ⟨rfl, FW.chg hbw hf hf2 hc⟩
theorem FW.fail {k : Int} (h : FW w wr b F) (ok : P52.Ok F n) (hn : n < 90000) (e : P52.fail F k = G) :
    Calls Tryz.prog 11 #[.pointer (some ⟨b, 0, none⟩), .int .i64 k] wr fun e w' => e = .returned (.tuple #[]) ∧ FW w w' b G := by
  obtain ⟨S, hf, hbw⟩ := h
  refine (cfFail k _ b F S wr n hf ok hn).mono ?_
  rintro e2 w2 ⟨S', rfl, hf2, hc⟩
  rw [e] at hf2
  exact ⟨rfl, FW.chg hbw hf hf2 hc⟩
theorem FW.free {k : Int} {outs : List Int} (h : FW w wr b F) (ok : P52.Ok F n) (hn : n < 90000) (e : P52.free F k = (G, outs)) :
    Calls Tryz.prog 12 #[.pointer (some ⟨b, 0, none⟩), .int .i64 k] wr fun e w' => ∃ v, e = .returned v ∧ OwnI w' wr.heap.size v outs ∧ FW w w' b G := by
  obtain ⟨S, hf, hbw⟩ := h
  refine (cfFree k _ b F S wr n hf ok hn).mono ?_
  rintro e2 w2 ⟨v, S', rfl, ho, hf2, hc, -⟩
  rw [e] at hf2 ho
  exact ⟨v, rfl, ho, FW.chg hbw hf hf2 hc⟩
theorem FW.ret {k : Int} {ls : List Lock} (h : FW w wr b F) (ok : P52.Ok F n) (hn : n < 90000) (e : P52.retained F k = ls) :
    Calls Tryz.prog 14 #[.pointer (some ⟨b, 0, none⟩), .int .i64 k] wr fun e w' => ∃ A c, e = .returned (.slice A ls.length c) ∧ FW w w' b F := by
  obtain ⟨S, hf, hbw⟩ := id h
  refine (cfRetained k _ b F S wr n hf ok hn).mono ?_
  rintro e2 w2 ⟨v, rfl, ho, hb⟩
  obtain ⟨A, c, rfl, -, -⟩ := ho.cells
  rw [e]
  exact ⟨A, c, rfl, h.below hb⟩
theorem FW.fast (h : FW w wr b F) (e : F.fast = code) : Calls Tryz.prog 32 #[.pointer (some ⟨b, 0, none⟩)] wr fun e w' => e = .returned (.int .i64 code) ∧ FW w w' b F := by
  obtain ⟨S, hf, hbw⟩ := id h
  refine (cfFast _ b F S wr hf).mono ?_
  rintro e2 w2 ⟨rfl, rfl⟩
  rw [e]
  exact ⟨rfl, h⟩
theorem FW.names (h : FW w wr b F) : Calls Tryz.prog 36 #[.pointer (some ⟨b, 0, none⟩)] wr fun e w' => ∃ nb, e = .returned (.pointer (some ⟨nb, 0, none⟩)) ∧ FW w w' b F := by
  obtain ⟨S, hf, hbw⟩ := id h
  refine (cfNames _ b F S wr hf).mono ?_
  rintro e2 w2 ⟨nb, rfl, rfl⟩
  exact ⟨nb, rfl, h⟩
end
set_option maxRecDepth 100000 in
theorem cfMk (u : Int) (w : World) : Calls Tryz.prog 35 #[.int .i64 u] w fun e w' => e = .returned (lv ⟨u, 200, ⟨[107], [107], false⟩, true⟩) ∧ Below w.heap.size w w' := by
  go_enter Tryz.func35, Tryz.ntmps35
  go_wp2
  exact bodyPost_ret (v := lv ⟨u, 200, ⟨[107], [107], false⟩, true⟩) (by simp [results, Tryz.results35, go_sem, lv]) rfl ⟨rfl, (Below.refl _ _).alloc (Nat.le_refl _) _⟩
set_option maxRecDepth 100000 in
set_option maxHeartbeats 4000000 in
theorem cfAwake (w : World) : Calls Tryz.prog 7 #[] w fun e w' => e = .returned (.bool true) ∧ Below w.heap.size w w' := by
  have hnp : ∀ (w : World) (p : Option Addr), (binOp .eql 25 (.pointer p) (.pointer none)).run Tryz.prog w = .ok (.bool (p.isNone)) w := fun w p => by cases p <;> simp [run_eql_pointer_nil w 25 _ (by kernel_rfl : Tryz.prog.underlying 25 = some (.pointer (Tryz.prog.pointee 25)))]
  have hnt : ∀ (w : World) (p : Option Addr), (binOp .neq 71 (.pointer p) (.pointer none)).run Tryz.prog w = .ok (.bool (p.isSome)) w := fun w p => by cases p <;> simp [run_neq_pointer_nil w 71 _ (by kernel_rfl : Tryz.prog.underlying 71 = some (.pointer (Tryz.prog.pointee 71)))]
  go_enter Tryz.func7, Tryz.ntmps7
  go_wp2_with fail
  refine (cfNew w).mono ?_
  rintro e w1 ⟨b, S, rfl, hf1, hb1⟩
  have HW := Lib.hid (show FW w w1 b P52.fs0 from ⟨S, hf1, hb1⟩)
  clear hf1 hb1
  go_wp2_with fail
  refine (FW.conn HW.out fr1).mono ?_
  rintro e wk ⟨rfl, hk⟩
  replace HW := Lib.hid hk
  clear hk
  go_wp2_with fail
  refine (FW.conn HW.out fr2).mono ?_
  rintro e wk ⟨rfl, hk⟩
  replace HW := Lib.hid hk
  clear hk
  go_wp2_with fail
  refine (cfMk 262145 _).mono ?_
  rintro e wk ⟨rfl, hk⟩
  replace HW := Lib.hid (HW.out.below hk)
  clear hk
  go_wp2_with fail
  refine (FW.req (n := 0) HW.out ok2 (by decide) (by unfold InR; decide) fr3).mono ?_
  rintro e wk ⟨rfl, hk⟩
  replace HW := Lib.hid hk
  clear hk
  go_wp2_with fail
  refine (FW.fast (code := 1) HW.out rfl).mono ?_
  rintro e wk ⟨rfl, hk⟩
  replace HW := Lib.hid hk
  clear hk
  go_wp2_with fail
  refine (FW.fail (k := 1) (G := f4) HW.out ok3 (by decide) rfl).mono ?_
  rintro e wk ⟨rfl, hk⟩
  replace HW := Lib.hid hk
  clear hk
  go_wp2_with fail
  refine (cfMk 327681 _).mono ?_
  rintro e wk ⟨rfl, hk⟩
  replace HW := Lib.hid (HW.out.below hk)
  clear hk
  go_wp2_with fail
  refine (FW.req (n := 1) HW.out ok4 (by decide) (by unfold InR; decide) fr5).mono ?_
  rintro e wk ⟨rfl, hk⟩
  replace HW := Lib.hid hk
  clear hk
  go_wp2_with fail
  refine (FW.fast (code := 1) HW.out rfl).mono ?_
  rintro e wk ⟨rfl, hk⟩
  replace HW := Lib.hid hk
  clear hk
  go_wp2_with fail
  refine (cfMk 262145 _).mono ?_
  rintro e wk ⟨rfl, hk⟩
  replace HW := Lib.hid (HW.out.below hk)
  clear hk
  go_wp2_with fail
  refine (FW.req (n := 2) HW.out ok5 (by decide) (by unfold InR; decide) fr5b).mono ?_
  rintro e wk ⟨rfl, hk⟩
  replace HW := Lib.hid hk
  clear hk
  go_wp2_with fail
  refine (FW.ret (n := 2) HW.out ok5 (by decide) fr5c).mono ?_
  rintro e wk ⟨A9, c9, rfl, hk⟩
  replace HW := Lib.hid hk
  clear hk
  go_wp2_with fail
  refine (FW.free (n := 2) (k := 1) (G := f6) (outs := [327681]) HW.out ok5 (by decide) (Prod.ext rfl fr6)).mono ?_
  rintro e wk ⟨v6, rfl, ho6, hk⟩
  replace HW := Lib.hid hk
  obtain ⟨A6, c6, rfl, hs6, -⟩ := ho6.cells
  obtain ⟨b6, o6, x6, rfl, hx6, hy6⟩ := hs6.at_ (k := 0) (by simp)
  simp at hx6
  subst hx6
  rw [Nat.add_zero] at hy6
  clear ho6 hs6 hk
  go_wp2_with fail
  refine (FW.names HW.out).mono ?_
  rintro e wk ⟨nb, rfl, hk⟩
  replace HW := Lib.hid hk
  clear hk
  go_wp2_with fail
  refine (FW.conn (G := (P52.connect f6 1 1).1) (code := 13) HW.out (Prod.ext rfl fr7)).mono ?_
  rintro e wk ⟨rfl, hk⟩
  replace HW := Lib.hid hk
  clear hk
  -- HERE
  go_wp2
  go_ret
  obtain ⟨S9, -, hbw⟩ := HW.out
  exact ⟨rfl, hbw⟩
end Go.Proofs.YtjklhiifjnmedaaGreat
namespace Go.Proofs.YtjklhiifjnmedaaGreat
open Go.RowKit Go.Maps P16 P46
attribute [local go_sem] ByteArray.mk_append_mk ByteArray.extract_mk mk_index

theorem wf_range {u : Int} (h : (Lit.int .i64 u).wf = true) : InR u := by
  simp [Lit.wf] at h
  exact h
theorem few_len {xs : List ActL} {m : Int} (h : fewA xs m = true) : (xs.length : Int) ≤ m := by
  unfold fewA at h
  simp only [Bool.and_eq_true, decide_eq_true_eq] at h
  exact h.1
theorem OwnL.reads52 {w : World} {B : Nat} {e : TypeId} {A : Option Addr} {n c : Nat} {ls : List Lock} (h : OwnL w B e (.slice A n c) ls) : LocksAt w A n ls ∧ ls.length = n := by
  obtain ⟨A', c', hv, hs, -⟩ := h.cells
  injection hv with h1 h2 h3
  subst h1
  rw [← h2] at hs
  exact ⟨hs, h2.symm⟩
/-- A facility under acts. -/
def FA (w wr : World) (B b n : Nat) : Prop := ∃ F S, Fac wr B b F S ∧ P52.Ok F n ∧ P52.Us F ∧ P52.Ep F ∧ Below w.heap.size w wr
end Go.Proofs.YtjklhiifjnmedaaGreat
namespace Go.Proofs.YtjklhiifjnmedaaGreat
open Go.RowKit Go.Maps P16 P46
attribute [local go_sem] ByteArray.mk_append_mk ByteArray.extract_mk mk_index

/-- A lock whose unit is a number of the kind. -/
def OkLock : Type := { l : Lock // UnitOk l }
section
open Go.ChangeShapes Go.WideShapes Go.ChangeAt Go.Deep
set_option maxRecDepth 100000 in
theorem open_lock_ok {H : Type} {enc : TypeId × Value → H} {w : World} {base : Nat} {spare : Nat → Bool} {held : Bool} {r : Reach} {b0 : Nat} {v : Value} {d : DataW H} {p : List MemPlace} (hv : Value.okWide Tryz.prog w r b0 30 v) (h : DataW.Trod enc Tryz.prog w base spare held 30 v d p) : ∃ l : OkLock, v = lv l.1 := by
  obtain ⟨cs, rfl, _⟩ := okWide_struct underL hv
  obtain ⟨fuel, hf⟩ := h
  obtain ⟨l, hq, hu⟩ := trod_lock hf
  refine ⟨⟨l, hu⟩, ?_⟩
  have : cs.toList = _ := hq
  rw [← Array.toArray_toList (xs := cs), this]
  rfl
end
def a0A (l : Lock) : ActL := ⟨0, 0, 0, l⟩
theorem fewCons {a : ActL} {xs : List ActL} {m : Int} (h : fewA (a :: xs) (m + 1) = true) : (xs.length : Int) ≤ m := by
  have := few_len h
  simp at this
  omega
theorem ac_one (a : ActL) : ∀ u ∈ ac a, u.oneCell' = true := by
  intro u hu
  rcases List.mem_cons.1 hu with rfl | hu
  · rfl
  · rcases List.mem_cons.1 hu with rfl | hu
    · rfl
    · rcases List.mem_cons.1 hu with rfl | hu
      · rfl
      · exact lc_one a.l u hu
theorem acs_one (xs : List ActL) : ∀ u ∈ acs xs, u.oneCell' = true := by
  intro u hu
  obtain ⟨a, _, hu⟩ := List.mem_flatMap.1 hu
  exact ac_one a u hu
theorem ActsAt.of_own {w : World} {B : Nat} {v : Value} {n : Nat} {xs : List ActL} (h : w.ownsRow B 32 9 v n (acs xs)) : ∃ A c, v = .slice A n c ∧ ActsAt w A n xs ∧ n ≤ maxLen := by
  have hl := h.1
  rcases h.2 with ⟨rfl, h0⟩ | ⟨g, cap, cur, rfl, _, _, h1, h2, _⟩
  · subst h0
    have he : acs xs = [] := List.eq_nil_of_length_eq_zero (by rw [hl])
    exact ⟨none, 0, rfl, ⟨hl, fun j u hj => by rw [he] at hj; simp at hj⟩, Nat.zero_le _⟩
  · refine ⟨_, _, rfl, ⟨hl, fun j u hj => ⟨g, 0, rfl, ?_⟩⟩, Nat.le_trans h1 h2⟩
    have hc := World.ownsRow.cells h (g := g) rfl j u hj
    rw [Addr.add_lit] at hc
    exact hc
theorem infoA : (Tryz.prog.info? 32).map (fun i => (i.zero, i.size, i.bytes)) = some (some (.agg #[.int .i64 0, .int .i64 0, .int .i64 0, .int .i64 0, .int .i64 0, .string ⟨#[]⟩, .string ⟨#[]⟩, .bool false, .bool false]), 9, 88) := by kernel_rfl
theorem CellsAt.one_row {w : World} {g : Nat} {t : TypeId} {cs : Array Value} {s : Nat} {B : Nat} (h : Blk w g t cs) (hs : cs.size = s) (hB : B ≤ g) : RowAt w B t s 1 cs.toList (.slice (some ⟨g, 0, none⟩) 1 1) := by
  refine ⟨by simp [hs], .inr ⟨g, 1, cs, rfl, hB, h, Nat.le_refl _, by unfold maxLen; omega, by omega, ?_⟩⟩
  rw [Nat.one_mul, List.take_of_length_le (by simp [hs])]
theorem below_row {w w2 : World} {o : Obj} {n c : Nat} (hg : (w.alloc o).grownBy w2 (Value.slice (some ⟨w.heap.size, 0, none⟩) n c).ownBlock) : Below w.heap.size w w2 :=
  (below_alloc (Below.refl _ w) o).grown hg (by rw [World.size_alloc]; omega) (fun k hk => by simp [Value.ownBlock] at hk; omega)
set_option maxRecDepth 100000 in
set_option maxHeartbeats 8000000 in
theorem lawRebuilt (A : Option Addr) (n c : Nat) (xs : List ActL) (x : OkLock) (w : World) (ha : ActsAt w A n xs) (hn : n ≤ maxLen) (hu : ∀ a ∈ xs, ActOk a) (hz : n * 88 ≤ 140737488351232) (hnn : A = none → n = 0) :
    Calls Tryz.prog 4 #[.slice A n c, lv x.1] w fun e w' => e = .returned (.bool true) ∧ Below w.heap.size w w' := by
  unfold maxLen at hn
  obtain ⟨l, hux⟩ := x
  have HUX := Lib.hid (wf_range hux)
  dsimp only
  clear hux
  have HA := Lib.hid ha
  have HU := Lib.hid hu
  have HNN := Lib.hid hnn
  have HL := Lib.hid ha.len
  clear ha hu hnn
  have hlenA : (Tryz.prog.info? 32).map (·.size) = some 9 := by kernel_rfl
  have hlenL : (Tryz.prog.info? 30).map (·.size) = some 6 := by kernel_rfl
  have hnp : ∀ (w : World) (p : Option Addr), (binOp .eql 25 (.pointer p) (.pointer none)).run Tryz.prog w = .ok (.bool (p.isNone)) w := fun w p => by cases p <;> simp [run_eql_pointer_nil w 25 _ (by kernel_rfl : Tryz.prog.underlying 25 = some (.pointer (Tryz.prog.pointee 25)))]
  obtain ⟨i0, hi0, hz0, hz1, hz2⟩ := info_parts infoA
  have HI := Lib.hid hi0
  have HZ0 := Lib.hid hz0
  have HZ1 := Lib.hid hz1
  have HZ2 := Lib.hid hz2
  clear hi0 hz0 hz1 hz2
  unfold lv
  go_enter Tryz.func4, Tryz.ntmps4
  go_upto_region 1 with (fail)
  obtain ⟨w1, g, e1, e2, hb1, h1⟩ := boxes1 w 30 (la l)
  unfold la at e1
  rw [e1, e2]
  have HB1 := Lib.hid hb1
  have HX1 := Lib.hid h1
  have hc1 := h1.add
  unfold la at hc1
  have HC1 := Lib.hid hc1
  have HA1 := Lib.hid (HA.out.below hb1)
  have hgW : w.heap.size ≤ g := by omega
  clear e1 e2 hb1 h1 hc1
  cases hf : fewA (a0A l :: xs) 41 with
  | false =>
    have HF := Lib.hid hf
    clear hf
    go_wp2_with (first | (refine wpList_load_cells rfl 30 (.tmp 3) rfl ⟨g, 0, none⟩ rfl _ _ HC1.out Tryz.underlying30 rfl hlenL ?_) | (at_builtin; refine wpList_plain rfl (fun K hK => ?_); refine wp_append_own (.tmp 12) (.tmp 13) _ rfl w1.heap.size 32 i0 _ 9 88 Tryz.underlying22 HI.out HZ0.out HZ1.out HZ2.out rfl (by omega) _ 1 _ rfl (CellsAt.one_row (Blk.new w1 32 (aa (a0A l))) rfl (Nat.le_refl _)) A n c _ rfl HNN.out (HA1.out.below (below_alloc (Below.refl _ _) _)) (acs_one xs) (by unfold maxLen; omega) (by omega) (by simp) ?_; intro v2 w2 hr2 hg2; have HB2 := Lib.hid (below_row hg2); have HA2 := Lib.hid (HA1.out.below HB2.out); have HX2 := Lib.hid (HX1.out.below HB2.out); obtain ⟨A2, c2, hv2, ha2, hn2⟩ := ActsAt.of_own (xs := a0A l :: xs) hr2; have HAA := Lib.hid ha2; have HNA := Lib.hid hn2; subst hv2; refine hK _ _ ?_; clear hK K hr2 hg2 ha2 hn2) | (go_at_call 6; refine (cfFew 41 A2 (1 + n) c2 (a0A l :: xs) w2 HAA.out HNA.out).mono ?_; rintro e w3 ⟨rfl, hb3⟩; rw [HF.out]; have HB3 := Lib.hid (below_then (below_then HB1.out HB2.out) hb3); have HX3 := Lib.hid (HX2.out.below hb3); have HGX := Lib.hid (show g < w3.heap.size from HX3.out.lt); clear hb3) | (go_at_call 7; refine (cfAwake _).mono ?_; rintro e wW ⟨rfl, hbW⟩; have HBW := Lib.hid (below_then HB3.out hbW); clear hbW))
    go_ret
    exact ⟨rfl, HBW.out⟩
  | true =>
    have HF := Lib.hid hf
    have hn40 : n ≤ 40 := by have h := fewCons (m := 40) hf; rw [HL.out] at h; omega
    clear hf
    go_upto_region 3 with (first | (refine wpList_load_cells rfl 30 (.tmp 3) rfl ⟨g, 0, none⟩ rfl _ _ HC1.out Tryz.underlying30 rfl hlenL ?_) | (at_builtin; refine wpList_plain rfl (fun K hK => ?_); refine wp_append_own (.tmp 12) (.tmp 13) _ rfl w1.heap.size 32 i0 _ 9 88 Tryz.underlying22 HI.out HZ0.out HZ1.out HZ2.out rfl (by omega) _ 1 _ rfl (CellsAt.one_row (Blk.new w1 32 (aa (a0A l))) rfl (Nat.le_refl _)) A n c _ rfl HNN.out (HA1.out.below (below_alloc (Below.refl _ _) _)) (acs_one xs) (by unfold maxLen; omega) (by omega) (by simp) ?_; intro v2 w2 hr2 hg2; have HB2 := Lib.hid (below_row hg2); have HA2 := Lib.hid (HA1.out.below HB2.out); have HX2 := Lib.hid (HX1.out.below HB2.out); obtain ⟨A2, c2, hv2, ha2, hn2⟩ := ActsAt.of_own (xs := a0A l :: xs) hr2; have HAA := Lib.hid ha2; have HNA := Lib.hid hn2; subst hv2; refine hK _ _ ?_; clear hK K hr2 hg2 ha2 hn2) | (go_at_call 6; refine (cfFew 41 A2 (1 + n) c2 (a0A l :: xs) w2 HAA.out HNA.out).mono ?_; rintro e w3 ⟨rfl, hb3⟩; rw [HF.out]; have HB3 := Lib.hid (below_then (below_then HB1.out HB2.out) hb3); have HX3 := Lib.hid (HX2.out.below hb3); have HGX := Lib.hid (show g < w3.heap.size from HX3.out.lt); clear hb3))
    clear HA1 HAA HNA HX1 HX2 HC1
    go_upto_region 4 with (go_at_call 8; refine (cfNew w3).mono ?_; rintro e w4 ⟨b, S2, rfl, hf2, hb2⟩; have HFA := Lib.hid (show FA w w4 w3.heap.size b 0 from ⟨_, S2, hf2, P52.ok0, P52.us0, P52.ep0, below_then HB3.out hb2⟩); have HX4 := Lib.hid (HX3.out.below hb2); clear hf2 hb2)
    go_wp2
    have hz1 := HB3.out.size
    obtain ⟨B, hB⟩ : ∃ B, w3.heap.size = B := ⟨_, rfl⟩
    rw [hB] at HFA hz1 HGX
    clear hB
    go_loopw [23] (fun i wr => ∃ k : Nat, k ≤ n ∧ i = .int .i64 k ∧ FA w wr B b k ∧ Blk wr g 30 (la l)) (fun i _ => n - (intOf i).toNat)
    case atStart => exact ⟨0, Nat.zero_le _, rfl, HFA.out, HX4.out⟩
    case round =>
      obtain ⟨k, hk, rfl, ⟨F, S, hf4, ok4, us4, ep4, hbw⟩, hxr⟩ := hrel
      have HXR := Lib.hid hxr
      clear hxr
      have HF4 := Lib.hid hf4
      have OK4 := Lib.hid ok4
      have US4 := Lib.hid us4
      have EP4 := Lib.hid ep4
      have HB := Lib.hid hbw
      clear hf4 ok4 us4 ep4 hbw
      by_cases hlt : k < n
      · have hs := HA.out.below HB.out
        obtain ⟨ba, off, a, rfl, hx⟩ := hs.at_ hlt
        have HR := Lib.hid (hs.row hx)
        have HUA := Lib.hid (wf_range (HU.out a (List.mem_iff_getElem?.2 ⟨k, hx⟩)).1)
        clear hs hx
        go_upto_region 9 with (refine wpList_load_cells rfl 32 (.tmp 25) rfl ⟨ba, off + k * 9, none⟩ rfl _ _ HR.out Tryz.underlying32 rfl hlenA ?_)
        obtain ⟨w4, g4, e1, e2, hb4, h4⟩ := boxes1 wr 32 (aa a)
        unfold aa at e1
        rw [e1, e2]
        have HB4 := Lib.hid (HB.out.trans (hb4.mono HB.out.size))
        have HF5 := Lib.hid (HF4.out.below hb4)
        have HXR5 := Lib.hid (HXR.out.below hb4)
        have HC4 := Lib.hid h4.add
        clear e1 e2 hb4 h4
        go_wp2_with (first | (refine wpList_load_cells rfl 32 (.tmp 7) rfl ⟨g4, 0, none⟩ rfl _ _ HC4.out Tryz.underlying32 rfl hlenA ?_) | (go_at_call 9; refine (cfDo a HUA.out B b F S w4 k HF5.out OK4.out (by omega)).mono ?_; rintro e w5 ⟨v5, S5, rfl, -, hf5, hc5, -⟩; have HF6 := Lib.hid hf5; have HB6 := Lib.hid (HB4.out.trans ((hc5.below (fun x hx => (HF5.out.ge hx).1) (by have h := (HF5.out.ge (S := S) (k := b) (by obtain ⟨p, nb, vh, vq, h1, h2⟩ := HF5.out; exact (h2 b).2 (.inl rfl))); omega)).mono hz1)); have HXR6 := Lib.hid (HXR5.out.chg hc5 (fun hs => by have h1 := (HF5.out.ge hs).1; have h2 := HGX.out; omega)); clear hf5 hc5))
        go_roundw
        case rel => exact ⟨k + 1, by omega, by go_num, ⟨_, S5, HF6.out, OK4.out.act a, US4.out.act a, EP4.out.act a, HB6.out⟩, HXR6.out⟩
        case measure => simp [intOf]; omega
      · have hkn : k = n := by omega
        subst hkn
        obtain ⟨lo, hlo⟩ : ∃ lo, F.lost = lo := ⟨_, rfl⟩
        have HLO := Lib.hid hlo
        clear hlo
        have hz2 := HB.out.size
        have hBr : B ≤ wr.heap.size := by
          obtain ⟨p, nb, vh, vq, h1, h2⟩ := HF4.out
          have h3 := h1.base
          have h4 := h1.box.lt
          omega
        have HRX := Lib.hid (P52.lost_request (P52.lose F) l rfl)
        have HRF := Lib.hid (show P52.request (P52.lose F) l = (P52.lose F, (P52.request (P52.lose F) l).2) from Prod.ext HRX.out.1 rfl)
        have HBE := Lib.hid (P52.rebuilt_ok OK4.out.valids OK4.out.good.compat (P52.lose F) rfl rfl rfl)
        have HEX := Lib.hid (P52.rebuilt_exports (F := F) (G := ⟨(P52.lose F).ep, (P52.lose F).cn, ⟨P52.exportsL F, []⟩, false, (P52.lose F).fast⟩) rfl rfl rfl)
        have HLX := Lib.hid (P52.exportsL_len F)
        have HIU := Lib.hid (show ∀ y ∈ P52.exportsL F, InR y.unit from fun y hy => InR.num (valid_num (OK4.out.valids.1 y (exports_held hy))))
        have OKL := Lib.hid (OK4.out.lose)
        have OKB := Lib.hid (show P52.Ok ⟨(P52.lose F).ep, (P52.lose F).cn, ⟨P52.exportsL F, []⟩, false, (P52.lose F).fast⟩ k from by
          have h := OKL.out.rebuild (ls := P52.exportsL F) (by have h1 := HLX.out; have h2 := OK4.out.len; omega)
          rw [HBE.out] at h
          exact h)
        have HNL := Lib.hid (show (P52.exportsL F).length ≤ 40 from by have h1 := HLX.out; have h2 := OK4.out.len; omega)
        go_upto_region 12 with (go_at_call 19; refine (cfExports B b F S wr k HF4.out OK4.out (by omega)).mono ?_; rintro e w8 ⟨v8, rfl, ho8, hb8⟩; have HF8 := Lib.hid (HF4.out.below hb8); have HB8 := Lib.hid (HB.out.trans (hb8.mono HB.out.size)); have hB8 := Lib.hid (Nat.le_trans hBr hb8.size); have HXR8 := Lib.hid (HXR.out.below hb8); have HN8 := Lib.hid (show ∀ x, v8.ownBlock = some x → ¬ S x from fun x hx hsx => (by have h1 := (ho8.lt x hx).1; have h2 := (HF4.out.ge hsx).2; omega)); have hcp := ho8.len_cap; obtain ⟨A8, c8, rfl, -, -⟩ := ho8.cells; have HO8 := Lib.hid ho8; have HCP := Lib.hid (hcp _ _ _ rfl); clear ho8 hb8 hcp)
        have HEQ := Lib.hid (show ∃ E, P52.exportsL F = E from ⟨_, rfl⟩)
        clear HEQ
        cases lo
        · have HRB := Lib.hid (show P52.rebuild F (P52.exportsL F) = (F, 9) from by unfold P52.rebuild; rw [if_pos HLO.out])
          go_upto_region 14 with (first | (go_at_call 10; refine (cfLost B b F S w8 HF8.out).mono ?_; rintro e w9 ⟨rfl, rfl⟩; rw [HLO.out]) | (go_at_call 20; refine (cfRebuild A8 _ c8 (P52.exportsL F) B b F S w8 HF8.out HO8.out.reads52.1 (by have h := HNL.out; omega) HCP.out HIU.out).mono ?_; rintro e w10 ⟨S10, rfl, hf10, hc10⟩; rw [HRB.out] at hf10 ⊢; have HF10 := Lib.hid hf10; have HO10 := Lib.hid (show OwnL w10 wr.heap.size 30 (.slice A8 (P52.exportsL F).length c8) (P52.exportsL F) from own_chg HO8.out hc10 HN8.out); have HN10 := Lib.hid (show ∀ x, (Value.slice A8 (P52.exportsL F).length c8).ownBlock = some x → ¬ S10 x from fun x hx hsx => (hc10.sub x hsx).elim (HN8.out x hx) (fun h => (by have h2 := (HO8.out.lt x hx).2; omega))); have HB10 := Lib.hid (HB8.out.trans ((HF8.out.below_ hc10 hB8.out).mono hz1)); have hB10 := Lib.hid (Nat.le_trans hB8.out hc10.size); have HXR10 := Lib.hid (HXR8.out.chg hc10 (fun hs => by have h1 := (HF8.out.ge hs).1; have h2 := HGX.out; omega)); clear hf10 hc10))
          go_upto_region 15 with (go_at_call 21; refine (cfLose B b F S10 w10 HF10.out).mono ?_; rintro e w11 ⟨S11, rfl, hf11, hc11⟩; have HF11 := Lib.hid hf11; have HO11 := Lib.hid (show OwnL w11 wr.heap.size 30 (.slice A8 (P52.exportsL F).length c8) (P52.exportsL F) from own_chg HO10.out hc11 HN10.out); have HN11 := Lib.hid (show ∀ x, (Value.slice A8 (P52.exportsL F).length c8).ownBlock = some x → ¬ S11 x from fun x hx hsx => (hc11.sub x hsx).elim (HN10.out x hx) (fun h => (by have h2 := (HO10.out.lt x hx).2; omega))); have HB11 := Lib.hid (HB10.out.trans ((HF10.out.below_ hc11 hB10.out).mono hz1)); have hB11 := Lib.hid (Nat.le_trans hB10.out hc11.size); have HXR11 := Lib.hid (HXR10.out.chg hc11 (fun hs => by have h1 := (HF10.out.ge hs).1; have h2 := HGX.out; omega)); clear hf11 hc11)
          have HC11 := Lib.hid HXR11.out.add
          obtain ⟨cd, hcd⟩ : ∃ cd, (P52.request (P52.lose F) l).2 = cd := ⟨_, rfl⟩
          have hcdn := HRX.out.2
          rw [hcd] at hcdn
          have b0 : (cd == 0) = false := beq_not hcdn.1
          have b15 : (cd == 15) = false := beq_not hcdn.2
          have HCD := Lib.hid hcd
          clear hcd hcdn
          go_upto_region 16 with (first | (refine wpList_load_cells rfl 30 (.tmp 3) rfl ⟨g, 0, none⟩ rfl _ _ HC11.out Tryz.underlying30 rfl hlenL ?_) | (go_at_call 16; refine (cfRequest l HUX.out B b (P52.lose F) S11 w11 k HF11.out OKL.out (by omega)).mono ?_; rintro e w12 ⟨S12, rfl, hf12, hc12⟩; rw [HRX.out.1] at hf12; rw [HCD.out]; have HF12 := Lib.hid hf12; have HO12 := Lib.hid (show OwnL w12 wr.heap.size 30 (.slice A8 (P52.exportsL F).length c8) (P52.exportsL F) from own_chg HO11.out hc12 HN11.out); have HN12 := Lib.hid (show ∀ x, (Value.slice A8 (P52.exportsL F).length c8).ownBlock = some x → ¬ S12 x from fun x hx hsx => (hc12.sub x hsx).elim (HN11.out x hx) (fun h => (by have h2 := (HO11.out.lt x hx).2; omega))); have HB12 := Lib.hid (HB11.out.trans ((HF11.out.below_ hc12 hB11.out).mono hz1)); have hB12 := Lib.hid (Nat.le_trans hB11.out hc12.size); clear hf12 hc12))
          go_upto_region 18 with (first | (go_at_call 10; refine (cfLost B b (P52.lose F) S12 w12 HF12.out).mono ?_; rintro e w13 ⟨rfl, rfl⟩; rw [show (P52.lose F).lost = true from rfl]) | (go_at_call 19; refine (cfExports B b (P52.lose F) S12 w12 k HF12.out OKL.out (by omega)).mono ?_; rintro e w13 ⟨v13, rfl, ho13, hb13⟩; rw [P52.lose_exports] at ho13; obtain ⟨A13, c13, rfl, -, -⟩ := ho13.cells; have HF13 := Lib.hid (HF12.out.below hb13); have HO13 := Lib.hid (HO12.out.below hb13); have HB13 := Lib.hid (HB12.out.trans (hb13.mono HB12.out.size)); have hB13 := Lib.hid (Nat.le_trans hB12.out hb13.size); clear ho13 hb13))
          obtain ⟨Gb, hGb⟩ : ∃ Gb : P52.Fs, (⟨(P52.lose F).ep, (P52.lose F).cn, ⟨P52.exportsL F, []⟩, false, (P52.lose F).fast⟩ : P52.Fs) = Gb := ⟨_, rfl⟩
          have HGL := Lib.hid (show Gb.lost = false from by rw [← hGb])
          rw [hGb] at HBE HEX OKB
          clear hGb
          go_wp2_with (first | (go_at_call 20; refine (cfRebuild A8 _ c8 (P52.exportsL F) B b (P52.lose F) S12 w13 HF13.out HO13.out.reads52.1 (by have h := HNL.out; omega) HCP.out HIU.out).mono ?_; rintro e w14 ⟨S14, rfl, hf14, hc14⟩; rw [HBE.out] at hf14 ⊢; have HF14 := Lib.hid hf14; have HN13 := Lib.hid HN12.out; have HO14 := Lib.hid (show OwnL w14 wr.heap.size 30 (.slice A8 (P52.exportsL F).length c8) (P52.exportsL F) from own_chg HO13.out hc14 HN13.out); have HN14 := Lib.hid (show ∀ x, (Value.slice A8 (P52.exportsL F).length c8).ownBlock = some x → ¬ S14 x from fun x hx hsx => (hc14.sub x hsx).elim (HN13.out x hx) (fun h => (by have h2 := (HO13.out.lt x hx).2; omega))); have HB14 := Lib.hid (HB13.out.trans ((HF13.out.below_ hc14 hB13.out).mono hz1)); have hB14 := Lib.hid (Nat.le_trans hB13.out hc14.size); clear hf14 hc14) | (go_at_call 10; refine (cfLost B b Gb S14 w14 HF14.out).mono ?_; rintro e w15 ⟨rfl, rfl⟩; rw [HGL.out]) | (go_at_call 19; refine (cfExports B b Gb S14 w14 k HF14.out OKB.out (by omega)).mono ?_; rintro e w15 ⟨v15, rfl, ho15, hb15⟩; rw [HEX.out] at ho15; obtain ⟨A15, c15, rfl, hs15, -⟩ := ho15.cells; have HS15 := Lib.hid hs15; have HO15 := Lib.hid (HO14.out.below hb15); have HB15 := Lib.hid (HB14.out.trans (hb15.mono HB14.out.size)); clear ho15 hb15 hs15) | (go_at_call 17; refine (refLocks A15 A8 _ _ c15 c8 _ _ w15 HS15.out HO15.out.reads52.1 (by have h := HNL.out; omega)).mono ?_; rintro e w16 ⟨rfl, hb16⟩; rw [decide_eq_true rfl]; have HB16 := Lib.hid (HB15.out.trans (hb16.mono HB15.out.size)); clear hb16) | (go_at_call 7; refine (cfAwake _).mono ?_; rintro e wz ⟨rfl, hbz⟩; have HBZ := Lib.hid (below_then_ HB16.out hbz (by have h := HB16.out.size; omega)); clear hbz))
          go_ret
          exact ⟨rfl, HBZ.out⟩
        · go_upto_region 14 with (go_at_call 10; refine (cfLost B b F S w8 HF8.out).mono ?_; rintro e w9 ⟨rfl, rfl⟩; rw [HLO.out])
          have HF10 := Lib.hid HF8.out
          have HO10 := Lib.hid HO8.out
          have HN10 := Lib.hid HN8.out
          have HB10 := Lib.hid HB8.out
          have hB10 := Lib.hid hB8.out
          have HXR10 := Lib.hid HXR8.out
          go_upto_region 15 with (go_at_call 21; refine (cfLose B b F S w8 HF10.out).mono ?_; rintro e w11 ⟨S11, rfl, hf11, hc11⟩; have HF11 := Lib.hid hf11; have HO11 := Lib.hid (show OwnL w11 wr.heap.size 30 (.slice A8 (P52.exportsL F).length c8) (P52.exportsL F) from own_chg HO10.out hc11 HN10.out); have HN11 := Lib.hid (show ∀ x, (Value.slice A8 (P52.exportsL F).length c8).ownBlock = some x → ¬ S11 x from fun x hx hsx => (hc11.sub x hsx).elim (HN10.out x hx) (fun h => (by have h2 := (HO10.out.lt x hx).2; omega))); have HB11 := Lib.hid (HB10.out.trans ((HF10.out.below_ hc11 hB10.out).mono hz1)); have hB11 := Lib.hid (Nat.le_trans hB10.out hc11.size); have HXR11 := Lib.hid (HXR10.out.chg hc11 (fun hs => by have h1 := (HF10.out.ge hs).1; have h2 := HGX.out; omega)); clear hf11 hc11)
          have HC11 := Lib.hid HXR11.out.add
          obtain ⟨cd, hcd⟩ : ∃ cd, (P52.request (P52.lose F) l).2 = cd := ⟨_, rfl⟩
          have hcdn := HRX.out.2
          rw [hcd] at hcdn
          have b0 : (cd == 0) = false := beq_not hcdn.1
          have b15 : (cd == 15) = false := beq_not hcdn.2
          have HCD := Lib.hid hcd
          clear hcd hcdn
          go_upto_region 16 with (first | (refine wpList_load_cells rfl 30 (.tmp 3) rfl ⟨g, 0, none⟩ rfl _ _ HC11.out Tryz.underlying30 rfl hlenL ?_) | (go_at_call 16; refine (cfRequest l HUX.out B b (P52.lose F) S11 w11 k HF11.out OKL.out (by omega)).mono ?_; rintro e w12 ⟨S12, rfl, hf12, hc12⟩; rw [HRX.out.1] at hf12; rw [HCD.out]; have HF12 := Lib.hid hf12; have HO12 := Lib.hid (show OwnL w12 wr.heap.size 30 (.slice A8 (P52.exportsL F).length c8) (P52.exportsL F) from own_chg HO11.out hc12 HN11.out); have HN12 := Lib.hid (show ∀ x, (Value.slice A8 (P52.exportsL F).length c8).ownBlock = some x → ¬ S12 x from fun x hx hsx => (hc12.sub x hsx).elim (HN11.out x hx) (fun h => (by have h2 := (HO11.out.lt x hx).2; omega))); have HB12 := Lib.hid (HB11.out.trans ((HF11.out.below_ hc12 hB11.out).mono hz1)); have hB12 := Lib.hid (Nat.le_trans hB11.out hc12.size); clear hf12 hc12))
          go_upto_region 18 with (first | (go_at_call 10; refine (cfLost B b (P52.lose F) S12 w12 HF12.out).mono ?_; rintro e w13 ⟨rfl, rfl⟩; rw [show (P52.lose F).lost = true from rfl]) | (go_at_call 19; refine (cfExports B b (P52.lose F) S12 w12 k HF12.out OKL.out (by omega)).mono ?_; rintro e w13 ⟨v13, rfl, ho13, hb13⟩; rw [P52.lose_exports] at ho13; obtain ⟨A13, c13, rfl, -, -⟩ := ho13.cells; have HF13 := Lib.hid (HF12.out.below hb13); have HO13 := Lib.hid (HO12.out.below hb13); have HB13 := Lib.hid (HB12.out.trans (hb13.mono HB12.out.size)); have hB13 := Lib.hid (Nat.le_trans hB12.out hb13.size); clear ho13 hb13))
          obtain ⟨Gb, hGb⟩ : ∃ Gb : P52.Fs, (⟨(P52.lose F).ep, (P52.lose F).cn, ⟨P52.exportsL F, []⟩, false, (P52.lose F).fast⟩ : P52.Fs) = Gb := ⟨_, rfl⟩
          have HGL := Lib.hid (show Gb.lost = false from by rw [← hGb])
          rw [hGb] at HBE HEX OKB
          clear hGb
          go_wp2_with (first | (go_at_call 20; refine (cfRebuild A8 _ c8 (P52.exportsL F) B b (P52.lose F) S12 w13 HF13.out HO13.out.reads52.1 (by have h := HNL.out; omega) HCP.out HIU.out).mono ?_; rintro e w14 ⟨S14, rfl, hf14, hc14⟩; rw [HBE.out] at hf14 ⊢; have HF14 := Lib.hid hf14; have HN13 := Lib.hid HN12.out; have HO14 := Lib.hid (show OwnL w14 wr.heap.size 30 (.slice A8 (P52.exportsL F).length c8) (P52.exportsL F) from own_chg HO13.out hc14 HN13.out); have HN14 := Lib.hid (show ∀ x, (Value.slice A8 (P52.exportsL F).length c8).ownBlock = some x → ¬ S14 x from fun x hx hsx => (hc14.sub x hsx).elim (HN13.out x hx) (fun h => (by have h2 := (HO13.out.lt x hx).2; omega))); have HB14 := Lib.hid (HB13.out.trans ((HF13.out.below_ hc14 hB13.out).mono hz1)); have hB14 := Lib.hid (Nat.le_trans hB13.out hc14.size); clear hf14 hc14) | (go_at_call 10; refine (cfLost B b Gb S14 w14 HF14.out).mono ?_; rintro e w15 ⟨rfl, rfl⟩; rw [HGL.out]) | (go_at_call 19; refine (cfExports B b Gb S14 w14 k HF14.out OKB.out (by omega)).mono ?_; rintro e w15 ⟨v15, rfl, ho15, hb15⟩; rw [HEX.out] at ho15; obtain ⟨A15, c15, rfl, hs15, -⟩ := ho15.cells; have HS15 := Lib.hid hs15; have HO15 := Lib.hid (HO14.out.below hb15); have HB15 := Lib.hid (HB14.out.trans (hb15.mono HB14.out.size)); clear ho15 hb15 hs15) | (go_at_call 17; refine (refLocks A15 A8 _ _ c15 c8 _ _ w15 HS15.out HO15.out.reads52.1 (by have h := HNL.out; omega)).mono ?_; rintro e w16 ⟨rfl, hb16⟩; rw [decide_eq_true rfl]; have HB16 := Lib.hid (HB15.out.trans (hb16.mono HB15.out.size)); clear hb16) | (go_at_call 7; refine (cfAwake _).mono ?_; rintro e wz ⟨rfl, hbz⟩; have HBZ := Lib.hid (below_then_ HB16.out hbz (by have h := HB16.out.size; omega)); clear hbz))
          go_ret
          exact ⟨rfl, HBZ.out⟩
end Go.Proofs.YtjklhiifjnmedaaGreat
