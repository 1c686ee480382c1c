/- Calls in memory; Few, call, run, awake. -/
import Derived.Test.YtojbddcbnnbklaaGreatDoorClBlocks
namespace Go.Proofs.YtojbddcbnnbklaaGreatDoor
open Go.RowKit P43
attribute [local go_sem] ByteArray.mk_append_mk ByteArray.extract_mk mk_index

abbrev tO : TypeId := 32
/-- A call in memory: its locks lie in a slice. -/
structure OpM where
  (p : OpL) (A : Option Addr) (n c : Nat)
def oc (x : OpM) : List Value := [.int .i64 x.p.kind, .int .i64 x.p.owner, .slice x.A x.n x.c, .string ⟨x.p.name.toArray⟩]
def oa (x : OpM) : Array Value := #[.int .i64 x.p.kind, .int .i64 x.p.owner, .slice x.A x.n x.c, .string ⟨x.p.name.toArray⟩]
def ocs (xs : List OpM) : List Value := xs.flatMap oc
theorem ocs_length (xs : List OpM) : (ocs xs).length = xs.length * 4 := by
  induction xs with
  | nil => rfl
  | cons a xs ih =>
    show (oc a ++ ocs xs).length = _
    rw [List.length_append, ih]
    simp [oc]
    omega
theorem ocs_get : ∀ {xs : List OpM} {k : Nat} {a : OpM}, xs[k]? = some a → ∀ j, j < 4 → (ocs xs)[k * 4 + j]? = (oc a)[j]?
  | [], k, a, h, j, hj => by simp at h
  | y :: xs, 0, a, h, j, hj => by
    simp only [List.getElem?_cons_zero, Option.some.injEq] at h
    subst h
    show (oc y ++ ocs xs)[0 * 4 + j]? = _
    rw [Nat.zero_mul, Nat.zero_add, List.getElem?_append_left (by simpa [oc] using hj)]
  | y :: xs, k + 1, a, h, j, hj => by
    show (oc y ++ ocs xs)[(k + 1) * 4 + j]? = _
    rw [List.getElem?_append_right (by simp [oc]; omega)]
    have := ocs_get (xs := xs) (k := k) (a := a) (by simpa using h) j hj
    rw [← this]
    congr 1
    simp [oc]
    omega
/-- A call's locks. -/
structure OpIn (w : World) (x : OpM) : Prop where
  at_ : NlsAt w x.A x.n x.p.l
  wfk : (Lit.int .i64 x.p.kind).wf = true
  wfo : (Lit.int .i64 x.p.owner).wf = true
  len : x.n ≤ maxLen
/-- The slice reads as the calls xs. -/
structure OpsAt (w : World) (A : Option Addr) (n : Nat) (xs : List OpM) : Prop where
  cells : CellsAt w A n 4 (ocs xs)
  ins : ∀ x ∈ xs, OpIn w x
section
variable {w w' : World} {A : Option Addr} {n : Nat} {xs : List OpM}
theorem OpIn.below {x : OpM} (h : OpIn w x) (hb : Below w.heap.size w w') : OpIn w' x := ⟨h.at_.below hb, h.wfk, h.wfo, h.len⟩
theorem OpsAt.len (h : OpsAt w A n xs) : xs.length = n := by
  have := h.cells.1
  rw [ocs_length] at this
  omega
theorem OpsAt.below (h : OpsAt w A n xs) (hb : Below w.heap.size w w') : OpsAt w' A n xs := ⟨CellsAt.below h.cells hb, fun x hx => (h.ins x hx).below hb⟩
theorem OpsAt.at_ (h : OpsAt w A n xs) {k : Nat} (hk : k < n) : ∃ b off a, A = some ⟨b, off, none⟩ ∧ xs[k]? = some a := by
  have hl := h.len
  have hk' : k < xs.length := by omega
  obtain ⟨b, off, h1, -⟩ := h.cells.2 (k * 4 + 0) _ (ocs_get (List.getElem?_eq_getElem hk') 0 (by omega))
  exact ⟨b, off, xs[k], h1, List.getElem?_eq_getElem hk'⟩
end
theorem OpsAt.row {w : World} {b off n : Nat} {xs : List OpM} (h : OpsAt w (some ⟨b, off, none⟩) n xs) {k : Nat} {a : OpM} (hl : xs[k]? = some a) :
    ∀ j u, (oa a)[j]? = some u → w.cell? ((⟨b, off + k * 4, none⟩ : Addr).add j) = some u := by
  intro j u hj
  have hj4 : j < 4 := (Array.getElem?_eq_some_iff.1 hj).1
  have hu : (ocs xs)[k * 4 + j]? = some u := by
    rw [ocs_get hl j hj4]
    simpa [oc, oa] using hj
  obtain ⟨b', off', he, h1⟩ := h.cells.2 _ u hu
  injection he with he
  injection he with he1 he2
  subst he1 he2
  rw [Addr.add_lit]
  show w.cell? ⟨b, off + k * 4 + j, none⟩ = some u
  rw [Nat.add_assoc]
  exact h1
theorem ocells {w : World} {b off n : Nat} {xs : List OpM} (h : OpsAt w (some ⟨b, off, none⟩) n xs) {k : Nat} {a : OpM} (hl : xs[k]? = some a) :
    w.cell? ⟨b, off + k * 4, none⟩ = some (.int .i64 a.p.kind) ∧ w.cell? ⟨b, off + k * 4 + 1, none⟩ = some (.int .i64 a.p.owner) ∧ w.cell? ⟨b, off + k * 4 + 2, none⟩ = some (.slice a.A a.n a.c) ∧ w.cell? ⟨b, off + k * 4 + 3, none⟩ = some (.string ⟨a.p.name.toArray⟩) := by
  have := h.row hl
  refine ⟨by have h0 := this 0 (.int .i64 a.p.kind) rfl; simpa [Addr.add] using h0, ?_, ?_, ?_⟩
  · have := this 1 _ rfl; rwa [Addr.add_lit] at this
  · have := this 2 _ rfl; rwa [Addr.add_lit] at this
  · have := this 3 _ rfl; rwa [Addr.add_lit] at this
/-- A call is short. -/
def shortO (x : OpM) : Bool := decide ((x.p.l.length : Int) ≤ 12) && decide ((x.p.name.length : Int) ≤ 60) && x.p.l.all fun q => decide ((q.1.length : Int) ≤ 60)
def fewO (xs : List OpM) (most : Int) : Bool := xs.all shortO && decide ((xs.length : Int) ≤ most)
theorem all_true {α : Type} {f : α → Bool} {xs : List α} {n : Nat} (hn : xs.length = n) (h : ∀ (j : Nat) (a : α), j < n → xs[j]? = some a → f a = true) : xs.all f = true := by
  rw [List.all_eq_true]
  intro a ha
  obtain ⟨j, hj⟩ := List.mem_iff_getElem?.1 ha
  exact h j a (by have := (List.getElem?_eq_some_iff.1 hj).1; omega) hj
theorem all_false {α : Type} {f : α → Bool} {xs : List α} {j : Nat} {a : α} (hj : xs[j]? = some a) (h : f a = false) : xs.all f = false := by
  rw [List.all_eq_false]
  exact ⟨a, List.mem_of_getElem? hj, by simp [h]⟩
theorem all_step {α : Type} {f : α → Bool} {xs : List α} {k : Nat} {a : α} (hall : ∀ (j : Nat) (b : α), j < k → xs[j]? = some b → f b = true) (hk : xs[k]? = some a) (ha : f a = true) : ∀ (j : Nat) (b : α), j < k + 1 → xs[j]? = some b → f b = true := by
  intro j b hj hb
  by_cases e : j = k
  · subst e
    rw [hk] at hb
    rw [← Option.some.inj hb]
    exact ha
  · exact hall j b (by omega) hb
set_option maxRecDepth 100000 in
set_option maxHeartbeats 2000000 in
theorem clFew (most : Int) (A : Option Addr) (n c : Nat) (xs : List OpM) (w : World) (h : OpsAt w A n xs) (hn : n ≤ 9223372036854775807) :
    Calls Tryz.prog 5 #[.slice A n c, .int .i64 most] w fun e w' => e = .returned (.bool (fewO xs most)) ∧ w = w' := by
  have HS := Lib.hid h
  have HLL := Lib.hid h.len
  clear h
  go_enter Tryz.func5, Tryz.ntmps5
  go_wp2
  go_loop [5, 6] (fun i _ => ∃ k : Nat, k ≤ n ∧ i = .int .i64 k ∧ Hid (∀ (j : Nat) (a : OpM), j < k → xs[j]? = some a → shortO a = true)) (fun i _ => n - (intOf i).toNat)
  case atStart => exact ⟨0, Nat.zero_le _, rfl, fun j a hj => absurd hj (by omega)⟩
  case round =>
    obtain ⟨k, hk, rfl, hall⟩ := hrel
    by_cases hlt : k < n
    · obtain ⟨b, off, a, rfl, ha⟩ := HS.out.at_ hlt
      obtain ⟨x0, x1, x2, x3⟩ := ocells HS.out ha
      have HA := Lib.hid ha
      have hin := HS.out.ins a (List.mem_of_getElem? ha)
      have HIN := Lib.hid hin
      have han : a.n ≤ 9223372036854775807 := by have := hin.len; unfold maxLen at this; omega
      have HAL := Lib.hid hin.at_.len
      have hk1 : (k : Int) < (n : Int) := by omega
      have hk2 : (0 : Int) ≤ (k : Int) := by omega
      clear ha hin x0 x1
      by_cases h1 : (12 : Int) < (a.n : Int)
      · have HO := Lib.hid (show fewO xs most = false from by
          have : shortO a = false := by
            unfold shortO
            rw [HAL.out, decide_eq_false (by omega)]
            rfl
          unfold fewO
          rw [all_false HA.out this]
          rfl)
        go_wp2
        go_ret
        exact ⟨retBool HO.out.symm, rfl⟩
      · by_cases h2 : (60 : Int) < (a.p.name.length : Int)
        · have HO := Lib.hid (show fewO xs most = false from by
            have : shortO a = false := by
              unfold shortO
              rw [decide_eq_false (p := (a.p.name.length : Int) ≤ 60) (by omega), Bool.and_false]
              rfl
            unfold fewO
            rw [all_false HA.out this]
            rfl)
          go_wp2
          go_ret
          exact ⟨retBool HO.out.symm, rfl⟩
        · have HSH := Lib.hid (show shortO a = a.p.l.all fun q => decide ((q.1.length : Int) ≤ 60) from by
            unfold shortO
            rw [HAL.out, decide_eq_true (p := (a.n : Int) ≤ 12) (by omega), decide_eq_true (p := (a.p.name.length : Int) ≤ 60) (by omega)]
            rfl)
          go_wp2
          go_loop [6] (fun i => ∃ m : Nat, m ≤ a.n ∧ i = .int .i64 m ∧ Hid (∀ (j : Nat) (q : P43.Nm × Bool), j < m → a.p.l[j]? = some q → (decide ((q.1.length : Int) ≤ 60)) = true)) (fun i => a.n - (intOf i).toNat)
          case atStart => exact ⟨0, Nat.zero_le _, rfl, fun j a hj => absurd hj (by omega)⟩
          case round =>
            obtain ⟨m, hm, rfl, hal2⟩ := hrel
            by_cases hlt2 : m < a.n
            · obtain ⟨b2, off2, q, hAe, hq, y0, -⟩ := HIN.out.at_.at_ hlt2
              have HQ := Lib.hid hq
              rw [hAe] at x2
              have hm1 : (m : Int) < (a.n : Int) := by omega
              have hm2 : (0 : Int) ≤ (m : Int) := by omega
              clear hq hAe
              by_cases h3 : (60 : Int) < (q.1.length : Int)
              · have HO := Lib.hid (show fewO xs most = false from by
                  have : shortO a = false := by
                    rw [HSH.out]
                    exact all_false HQ.out (decide_eq_false (by omega))
                  unfold fewO
                  rw [all_false HA.out this]
                  rfl)
                go_wp2
                go_ret
                exact ⟨retBool HO.out.symm, rfl⟩
              · go_wp2
                go_round
                case rel => exact ⟨m + 1, hlt2, by simp, all_step hal2 HQ.out (decide_eq_true (by omega))⟩
                case measure => dsimp only [intOf]; omega
            · have hmn : m = a.n := by omega
              have hm1 : ¬ (m : Int) < (a.n : Int) := by omega
              go_wp2
              go_round
              case rel => exact ⟨k + 1, hlt, by simp, all_step hall HA.out (by rw [HSH.out]; exact all_true HAL.out (fun j q hj hq => hal2 j q (by omega) hq))⟩
              case measure => dsimp only [intOf]; omega
    · have hkn : k = n := by omega
      subst hkn
      have hk1 : ¬ (k : Int) < (k : Int) := by omega
      have HO := Lib.hid (show fewO xs most = decide ((k : Int) ≤ most) from by unfold fewO; rw [all_true HLL.out hall, HLL.out]; rfl)
      go_wp2
      go_ret
      exact ⟨retBool HO.out.symm, rfl⟩
/-- What a call leaves. -/
def CPost (F : Nat → Prop) (w : World) (B p : Nat) (r : T × Bool × List Int × Int) : Ending → World → Prop :=
  TPost F w B p r.1 fun e w' => ∃ v, e = .returned (.tuple #[.bool r.2.1, v, .int .i64 r.2.2.2]) ∧ OwnI w' w.heap.size v r.2.2.1
theorem CPost.from {F : Nat → Prop} {w w1 w' : World} {B p : Nat} {r : T × Bool × List Int × Int} {e : Ending} (h : CPost F w1 B p r e w') (hb : Below w.heap.size w w1) : CPost F w B p r e w' := by
  obtain ⟨⟨v, h1, h2⟩, F', h3, h4⟩ := h
  exact ⟨⟨v, h1, h2.base hb.size⟩, F', h3, (Chg.of_below hb).trans h4⟩
set_option maxRecDepth 100000 in
set_option maxHeartbeats 2000000 in
theorem clCall (B p : Nat) (t : T) (F : Nat → Prop) (x : OpM) (w : World) (m : TT w B p t F) (hG : GlobM w) (hl : t.hs.length + t.ws.length ≤ 100000) (hnd : (ids t.hs).Nodup) (hx : OpIn w x) (hs : shortO x = true) :
    Calls Tryz.prog 7 #[.pointer (some ⟨p, 0, none⟩), .agg (oa x)] w (CPost F w B p (callP validB t x.p)) := by
  unfold shortO at hs
  simp only [Bool.and_eq_true, decide_eq_true_eq, List.all_eq_true] at hs
  obtain ⟨⟨hs1, hs2⟩, hs3⟩ := hs
  have HM := Lib.hid m
  have HG := Lib.hid hG
  have HND := Lib.hid hnd
  have HX := Lib.hid hx
  have HS3 := Lib.hid hs3
  have hln := hx.at_.len
  have hn12 : x.n ≤ 12 := by omega
  have hnm : x.p.name.length ≤ 60 := by omega
  clear m hG hnd hx hs3 hln
  unfold oa
  go_enter Tryz.func7, Tryz.ntmps7
  go_upto_region 1 with (fail)
  obtain ⟨w1, g, e1, e2, hb1, hg⟩ := boxes1 w tO (oa x)
  unfold oa at e1
  rw [show w.alloc (.cells #[.int .i64 x.p.kind, .int .i64 x.p.owner, .slice x.A x.n x.c, .string ⟨x.p.name.toArray⟩] 32) = w1 from e1, e2]
  have g0 := hg.cell 0
  have g1 := hg.cell 1
  have g2 := hg.cell 2
  have g3 := hg.cell 3
  simp [oa] at g0 g1 g2 g3
  have HB1 := Lib.hid hb1
  have HM1 := Lib.hid (HM.out.below hb1)
  have HX1 := Lib.hid (HX.out.below hb1)
  have HG1 := Lib.hid (HG.out.below hb1)
  clear e1 e2 hb1 hg
  by_cases h0 : x.p.kind = 0
  · have hc : callP validB t x.p = ((requestP validB t x.p.owner x.p.l).1, (requestP validB t x.p.owner x.p.l).2.1, [], (requestP validB t x.p.owner x.p.l).2.2) := by
      unfold callP
      rw [if_pos h0]
    have HC := Lib.hid hc
    have hb0 : ((x.p.kind : Int) == 0) = true := by simpa using h0
    clear hc h0
    go_wp2_with fail
    refine (clRequest B p t F x.p.owner x.A x.n x.c x.p.l w1 HM1.out HG1.out hl HX1.out.at_ (by omega) (fun q hq => by have := HS3.out q hq; omega)).mono ?_
    rintro e w2 ⟨rfl, F', ht, hch⟩
    have HT := Lib.hid ht
    have HCH := Lib.hid hch
    clear ht hch
    go_wp2
    go_ret3
    rw [HC.out]
    exact CPost.from ⟨⟨_, rfl, OwnI.nil _ _⟩, F', HT.out, HCH.out⟩ HB1.out
  · by_cases h1 : x.p.kind = 1
    · have hc : callP validB t x.p = ((releaseP t x.p.owner).1, false, (releaseP t x.p.owner).2.1, (releaseP t x.p.owner).2.2) := by
        unfold callP
        rw [if_neg h0, if_pos h1]
      have HC := Lib.hid hc
      have hb0 : ((x.p.kind : Int) == 0) = false := by simpa using h0
      have hb1 : ((x.p.kind : Int) == 1) = true := by simpa using h1
      clear hc h0 h1
      go_wp2_with fail
      refine (clRelease B p t F x.p.owner w1 HM1.out hl).mono ?_
      rintro e w2 ⟨⟨v, rfl, ho⟩, F', ht, hch⟩
      have HO := Lib.hid ho
      have HT := Lib.hid ht
      have HCH := Lib.hid hch
      clear ht hch ho
      go_wp2
      go_ret3
      rw [HC.out]
      exact CPost.from ⟨⟨_, rfl, HO.out⟩, F', HT.out, HCH.out⟩ HB1.out
    · have hc : callP validB t x.p = ((shareP t x.p.owner x.p.name).1, false, (shareP t x.p.owner x.p.name).2.1, (shareP t x.p.owner x.p.name).2.2) := by
        unfold callP
        rw [if_neg h0, if_neg h1]
      have HC := Lib.hid hc
      have hb0 : ((x.p.kind : Int) == 0) = false := by simpa using h0
      have hb1 : ((x.p.kind : Int) == 1) = false := by simpa using h1
      clear hc h0 h1
      go_wp2_with fail
      refine (clShare B p t F x.p.owner x.p.name w1 HM1.out hl HND.out (by omega)).mono ?_
      rintro e w2 ⟨⟨v, rfl, ho⟩, F', ht, hch⟩
      have HO := Lib.hid ho
      have HT := Lib.hid ht
      have HCH := Lib.hid hch
      clear ht hch ho
      go_wp2
      go_ret3
      rw [HC.out]
      exact CPost.from ⟨⟨_, rfl, HO.out⟩, F', HT.out, HCH.out⟩ HB1.out
end Go.Proofs.YtojbddcbnnbklaaGreatDoor
