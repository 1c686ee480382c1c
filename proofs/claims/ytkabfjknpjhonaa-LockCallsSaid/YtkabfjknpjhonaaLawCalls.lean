/- The walk of LockCalls: a manager and the reference over all calls. LockCalls holds for every input: its walk joined to the row's own form. -/
import Derived.Test.YtkabfjknpjhonaaLkMb
import Derived.Test.YtkabfjknpjhonaaLkUnits
import Derived.Test.YtkabfjknpjhonaaLkLawA
import Derived.Deep.CutBlock
import Derived.Test.YtkabfjknpjhonaaLkOpen
import Derived.ProofKit
import Derived.OpenShut
import Derived.ShutString
import Derived.ChangeOld
namespace Go.Proofs.Ytkabfjknpjhonaa
open Go.RowKit P16 P46
attribute [local go_sem] ByteArray.mk_append_mk ByteArray.extract_mk mk_index

/-- The blocks that are not the manager's, nor the one of the state's box. -/
def XF (w : World) (p px b : Nat) : Prop := ¬ Foot w p b ∧ b ≠ px
/-- A manager and a state of the reference side by side. -/
structure KC (W wr : World) (B p px : Nat) (sm sx : St) (vh vq v1 v2 : Value) : Prop where
  mgr : Mgr wr B p sm.h sm.q vh vq
  box : Blk wr px tS #[v1, v2]
  held : SL wr (XF wr p px) v1 sx.h
  queue : SL wr (XF wr p px) v2 sx.q
  out : ¬ Foot wr p px
  low : Below B W wr
  base : B ≤ wr.heap.size ∧ B ≤ px
section
variable {W wr w' : World} {B p px : Nat} {sm sm' sx s' : St} {vh vq vh' vq' v1 v2 va vb : Value}
theorem Mgr.setFar {h q : List Lock} (m : Mgr wr B p h q vh vq) {g : Nat} (hg : ¬ Foot wr p g) (i : Nat) (u : Value) : Mgr (wr.setCell ⟨g, i, none⟩ u) B p h q vh vq := by
  have hn := fun k => (m.foot (k := k)).2
  refine ⟨m.box.far (p := ⟨g, i, none⟩) (fun e => hg (hn _ (.inl e.symm))) u, m.base, m.held.setCell (p := ⟨g, i, none⟩) (fun e => hg (hn _ (.inr (.inl e)))) u, m.queue.setCell (p := ⟨g, i, none⟩) (fun e => hg (hn _ (.inr (.inr e)))) u, m.apart⟩
theorem KC.below (k : KC W wr B p px sm sx vh vq v1 v2) (hb : Below wr.heap.size wr w') : KC W w' B p px sm sx vh vq v1 v2 := by
  have hm := k.mgr.below hb
  have hf : ∀ b, Foot w' p b → Foot wr p b := fun b h => k.mgr.foot.2 (hm.foot.1 h)
  exact ⟨hm, k.box.below hb, (k.held.below hb).mono (fun b _ h => ⟨fun e => h.1 (hf b e), h.2⟩), (k.queue.below hb).mono (fun b _ h => ⟨fun e => h.1 (hf b e), h.2⟩), fun e => k.out (hf _ e), k.low.trans (hb.mono k.base.1), Nat.le_trans k.base.1 hb.size, k.base.2⟩
theorem SL.moved {v : Value} {ls : List Lock} (h : SL wr (XF wr p px) v ls) (mv : Moved p wr w') : SL w' (XF w' p px) v ls := by
  obtain ⟨A, n, c, rfl, h1, h2, h3, h4⟩ := h
  refine ⟨A, n, c, rfl, CellsAt.moved h1 mv (fun b off e => (h4 b off e).2.1), h2, h3, fun b off e => ⟨Nat.lt_of_lt_of_le (h4 b off e).1 mv.size, fun hf => ?_, (h4 b off e).2.2⟩⟩
  rcases mv.foot b hf with hf | hf
  · exact (h4 b off e).2.1 hf
  · have := (h4 b off e).1
    omega
theorem KC.moved (k : KC W wr B p px sm sx vh vq v1 v2) (hm' : Mgr w' B p sm'.h sm'.q vh' vq') (mv : Moved p wr w') : KC W w' B p px sm' sx vh' vq' v1 v2 :=
  ⟨hm', k.box.moved mv k.out, k.held.moved mv, k.queue.moved mv, fun e => by
    rcases mv.foot _ e with hf | hf
    · exact k.out hf
    · have := k.box.lt
      omega, k.low.trans (mv.below (fun j hj => (k.mgr.ge hj).1) k.base.1), Nat.le_trans k.base.1 mv.size, k.base.2⟩
theorem KC.fresh (k : KC W wr B p px sm sx vh vq v1 v2) : ∀ b, wr.heap.size ≤ b → XF wr p px b := fun b hb =>
  ⟨fun hf => by have := (k.mgr.ge hf).2; omega, fun e => by have := k.box.lt; omega⟩
/-- The reference's answer is written into the state's box. -/
theorem KC.put (k : KC W wr B p px sm sx vh vq v1 v2) (hb : Below wr.heap.size wr w') (ha : SL w' (XF wr p px) va s'.h) (hq : SL w' (XF wr p px) vb s'.q) : KC W ((w'.setCell ⟨px, 0, none⟩ va).setCell ⟨px, 1, none⟩ vb) B p px sm s' vh vq va vb := by
  have k1 := k.below hb
  have hf : ∀ b, Foot w' p b → Foot wr p b := fun b h => k.mgr.foot.2 (k1.mgr.foot.1 h)
  have m1 := k1.mgr.setFar k1.out 0 va
  have f1 : ∀ b, Foot (w'.setCell ⟨px, 0, none⟩ va) p b → Foot w' p b := fun b h => k1.mgr.foot.2 (m1.foot.1 h)
  have m2 := m1.setFar (fun e => k1.out (f1 _ e)) 1 vb
  have f2 : ∀ b, Foot ((w'.setCell ⟨px, 0, none⟩ va).setCell ⟨px, 1, none⟩ vb) p b → Foot wr p b := fun b h => hf b (f1 b (m1.foot.2 (m2.foot.1 h)))
  refine ⟨m2, by simpa using (k1.box.put 0 va).put 1 vb, ?_, ?_, fun e => k.out (f2 _ e), (k1.low.setCell k1.base.2 _).setCell k1.base.2 _, by simpa using k1.base⟩
  · exact ((ha.setCell (p := ⟨px, 0, none⟩) (fun _ h => h.2) va).setCell (p := ⟨px, 1, none⟩) (fun _ h => h.2) vb).mono (fun b _ h => ⟨fun e => h.1 (f2 b e), h.2⟩)
  · exact ((hq.setCell (p := ⟨px, 0, none⟩) (fun _ h => h.2) va).setCell (p := ⟨px, 1, none⟩) (fun _ h => h.2) vb).mono (fun b _ h => ⟨fun e => h.1 (f2 b e), h.2⟩)
end
/-- Each operation ahead of number k is waited for by a later one, up to k. -/
def lastB (ops : Array Oper) (k : Nat) : Bool := (List.range k).all fun j => (List.range (k + 1)).any fun m => decide (j < m) && (match ops[m]? with | some o => waits o j | none => false)
theorem reachB_mono {ops : Array Oper} : ∀ (f k j : Nat), reachB ops f k j = true → reachB ops (f + 1) k j = true
  | 0, _, _, h => by cases h
  | f + 1, k, j, h => by
    rw [reachB] at h ⊢
    cases ho : ops[k]? with
    | none => rw [ho] at h; cases h
    | some o =>
      rw [ho] at h
      simp only [Array.any_eq_true, Bool.and_eq_true, Bool.or_eq_true, beq_iff_eq] at h ⊢
      obtain ⟨x, hx, h1, h2⟩ := h
      exact ⟨x, hx, h1, h2.imp id (fun h => reachB_mono f _ _ h)⟩
theorem reachB_up {ops : Array Oper} {f k j : Nat} (h : reachB ops f k j = true) : ∀ d, reachB ops (f + d) k j = true
  | 0 => h
  | d + 1 => reachB_mono _ _ _ (reachB_up h d)
theorem reachB_one {ops : Array Oper} {k j : Nat} {o : Oper} (ho : ops[k]? = some o) (hw : waits o j = true) (f : Nat) : reachB ops (f + 1) k j = true := by
  rw [reachB, ho]
  rw [waits_arr] at hw
  simp only [Array.any_eq_true, Bool.and_eq_true, Bool.or_eq_true, beq_iff_eq] at hw ⊢
  obtain ⟨x, hx, h1, h2⟩ := hw
  exact ⟨x, hx, h2, .inl h1⟩
theorem reachB_snoc {ops : Array Oper} {m j : Nat} {o : Oper} (ho : ops[m]? = some o) (hw : waits o j = true) : ∀ (f k : Nat), reachB ops f k m = true → reachB ops (f + 1) k j = true
  | 0, _, h => by cases h
  | f + 1, k, h => by
    rw [reachB] at h ⊢
    cases hk : ops[k]? with
    | none => rw [hk] at h; cases h
    | some o' =>
      rw [hk] at h
      simp only [Array.any_eq_true, Bool.and_eq_true, Bool.or_eq_true, beq_iff_eq] at h ⊢
      obtain ⟨x, hx, h1, h2⟩ := h
      refine ⟨x, hx, h1, .inr ?_⟩
      rcases h2 with h2 | h2
      · rw [h2]
        exact reachB_one ho hw f
      · exact reachB_snoc ho hw f _ h2
theorem tailB_last {ops : Array Oper} {k : Nat} (hs : ops.size = k + 1) (h : lastB ops k = true) : tailB ops (k + 1) k = true := by
  have key : ∀ d j, j < k → k - j ≤ d → reachB ops d k j = true := by
    intro d
    induction d with
    | zero => intro j hj hd; omega
    | succ d ih =>
      intro j hj hd
      have h1 := List.all_eq_true.1 h j (List.mem_range.2 hj)
      obtain ⟨m, hm, h2⟩ := List.any_eq_true.1 h1
      simp only [Bool.and_eq_true, decide_eq_true_eq] at h2
      obtain ⟨hjm, h3⟩ := h2
      have hmk := List.mem_range.1 hm
      cases ho : ops[m]? with
      | none => rw [ho] at h3; cases h3
      | some o =>
        rw [ho] at h3
        by_cases hmk2 : m = k
        · subst hmk2
          exact reachB_one ho h3 d
        · exact reachB_snoc ho h3 d k (ih m (by omega) (by omega))
  unfold tailB
  rw [List.all_eq_true]
  intro i hi
  have hi' := List.mem_range.1 hi
  by_cases hik : i < k
  · simp [hik]
  · have hik2 : i = k := by omega
    subst hik2
    simp only [Bool.or_eq_true, decide_eq_true_eq]
    refine .inr (List.all_eq_true.2 fun j hj => ?_)
    have hj' := List.mem_range.1 hj
    have := reachB_up (key (i - j) j hj' (Nat.le_refl _)) (i + 1 - (i - j))
    rwa [show i - j + (i + 1 - (i - j)) = i + 1 from by omega] at this
/-- A region that draws its order and only reads and makes memory, one operation at its end; its frame, once. -/
theorem wp_region_frame {P : Program} {ops : Array Oper} {Q : Exit → Act → World → Prop} {id : Nat} {a : Act} {w : World} {F : (Nat → Value) → Act} (N : Nat) (hm : P.follows .mixedOrders = true) (hB : (backB 0 ops.toList && lastB ops N && decide (ops.size = N + 1) && apartB (ops.toList.take N)) = true) (C : World → Prop) (Fact : Nat → Value → World → Prop)
    (hCR : ∀ w w', C w → Below w.heap.size w w' → C w') (hFR : ∀ i v w w', Fact i v w → Below w.heap.size w w' → Fact i v w') (hC : C { w with drawn := w.drawn + 1 }) (hF : ∀ u, putAll a (ops.toList.take N) u 0 = F u)
    (hops : allOps (fun i o => ∀ u w, C w → (∀ j, waits o j = true → Fact j (u j) w) → ∀ K : Act → World → Prop, (∀ v w', Below w.heap.size w w' → Fact i v w' → K ((F u).put o.dst v) w') →
      if Region.wanted o (yielded ops (F u).tmps) then o.wp P (F u) w K Q else K ((F u).put o.dst undef) w) 0 (ops.toList.take N))
    (hQ : ∀ u w', C w' → (∀ i, i < N → Fact i (u i) w') → wpList P ops Q (ops.toList.drop N) (F u) w') : (Code.region id ops true).wp P Q a w := by
  simp only [Bool.and_eq_true, decide_eq_true_eq] at hB
  obtain ⟨⟨⟨hb1, hb2⟩, hb3⟩, hb4⟩ := hB
  have hlt : N < ops.size := by omega
  refine wp_region_kill (N + 1) N hm (by simp only [Bool.and_eq_true, decide_eq_true_eq]; exact ⟨⟨⟨hb1, tailB_last hb3 hb2⟩, hlt⟩, hb4⟩) (fun _ => none) (fun _ a b => Below a.heap.size a b) C Fact (fun _ _ _ => hCR _ _) (fun _ i v w w' _ _ => hFR i v w w') hC ?_ (fun u w' hc hf => by rw [hF u]; exact hQ u w' hc (fun i hi => hf i hi rfl))
  have conv : ∀ (l : List Oper) (k : Nat) (p q : Nat → Oper → Prop), allOps p k l → (∀ i o, p i o → q i o) → allOps q k l := by
    intro l
    induction l with
    | nil => intros; trivial
    | cons o l ih => intro k p q hp hpq; exact ⟨hpq _ _ hp.1, ih _ _ _ hp.2 hpq⟩
  refine conv _ 0 _ _ hops (fun i o hp u w hc hd K hK => ?_)
  rw [hF u] at hK ⊢
  exact hp u w hc (fun j hj => hd j hj rfl) K hK
/-- The operations write the slots from s on, one after the other. -/
def dstB : Nat → List Oper → Bool
  | _, [] => true
  | s, o :: l => (o.dst == some s) && dstB (s + 1) l
theorem putAll_mid (u : Nat → Value) : ∀ (l : List Oper) (a : Act) (k s : Nat), dstB s l = true → s + l.length ≤ a.tmps.size → putAll a l u k = { a with tmps := (a.tmps.toList.take s ++ ((List.range' k l.length).map u ++ a.tmps.toList.drop (s + l.length))).toArray }
  | [], a, k, s, _, _ => by
    obtain ⟨⟨xs⟩, d⟩ := a
    simp [putAll]
  | o :: l, ⟨⟨xs⟩, d⟩, k, s, h, hs => by
    simp only [dstB, Bool.and_eq_true, beq_iff_eq] at h
    obtain ⟨h1, h2⟩ := h
    rw [List.length_cons] at hs
    have hs' : s + (l.length + 1) ≤ xs.length := hs
    have e : (Act.mk ⟨xs⟩ d).put o.dst (u k) = Act.mk ⟨xs.set s (u k)⟩ d := by rw [h1]; simp [Act.put]
    show putAll ((Act.mk ⟨xs⟩ d).put o.dst (u k)) l u (k + 1) = _
    rw [e, putAll_mid u l _ (k + 1) (s + 1) h2 (by simp; omega)]
    have h3 : (xs.set s (u k)).take (s + 1) = xs.take s ++ [u k] := by
      rw [List.take_add_one, List.take_set_of_le (Nat.le_refl _)]
      simp
      rw [List.getElem?_set_self (by omega)]
    have h4 : (xs.set s (u k)).drop (s + 1 + l.length) = xs.drop (s + (l.length + 1)) := by
      rw [List.drop_set_of_lt (by omega), show s + 1 + l.length = s + (l.length + 1) from by omega]
    simp only [List.length_cons, List.range'_succ, List.map_cons]
    rw [h3, h4]
    simp
theorem lvZ : lv zeroL = .agg #[.int .i64 0, .int .i64 0, .string ⟨#[]⟩, .string ⟨#[]⟩, .bool false, .bool false] := rfl
theorem OwnI.setPx {w : World} {B : Nat} {v : Value} {xs : List Int} {px : Nat} {cs : Array Value} (h : OwnI w B v xs) (hb : Blk w px tS cs) (va vb : Value) : OwnI ((w.setCell ⟨px, 0, none⟩ va).setCell ⟨px, 1, none⟩ vb) B v xs := by
  have hne : v.ownBlock ≠ some px := fun e => ownI_ne h hb (by decide) e.symm
  exact (h.setCell (p := ⟨px, 0, none⟩) hne va).setCell (p := ⟨px, 1, none⟩) hne vb
set_option maxRecDepth 100000 in
set_option maxHeartbeats 8000000 in
theorem lawCalls (A : Option Addr) (n c : Nat) (xs : List ActL) (W : World) (ha : ActsAt W A n xs) (hn : n ≤ maxLen) (_hu : ∀ a ∈ xs, (Lit.int .i64 a.l.unit).wf = true) :
    Calls Try.prog 8 #[.slice A n c] W fun e w' => e = .returned (.bool true) ∧ Below W.heap.size W w' := by
  unfold maxLen at hn
  have HA := Lib.hid ha
  clear ha
  cases hf : fewA xs 50 with
  | false =>
    have HF := Lib.hid hf
    clear hf
    go_enter Try.func8, Try.ntmps8
    go_wp2_with (first | (go_at_call 10; refine (lkFew 50 A n c xs W HA.out hn).mono ?_; rintro e w2 ⟨rfl, hb2⟩; rw [HF.out]; have HB2 := Lib.hid hb2; clear hb2) | (go_at_call 11; refine (lkAwake _).mono ?_; rintro e w3 ⟨rfl, hb3⟩; have HB3 := Lib.hid hb3; clear hb3))
    go_ret
    exact ⟨rfl, below_then HB2.out HB3.out⟩
  | true =>
    have HF := Lib.hid hf
    have hl50 := few_len hf
    rw [HA.out.len] at hl50
    have hnp := ptr_nil
    have hlenA : (Try.prog.info? 34).map (·.size) = some 7 := by kernel_rfl
    have hlenL : (Try.prog.info? 32).map (·.size) = some 6 := by kernel_rfl
    have hlenS : (Try.prog.info? tS).map (·.size) = some 2 := by kernel_rfl
    clear hf
    go_enter Try.func8, Try.ntmps8
    go_upto_region 4 with (first | (go_at_call 10; refine (lkFew 50 A n c xs W HA.out hn).mono ?_; rintro e w2 ⟨rfl, hb2⟩; rw [HF.out]; have HB2 := Lib.hid hb2; clear hb2) | (go_at_call 12; refine (lkNew none 0 0 [] w2 LocksAt.nil (by omega)).mono ?_; rintro e w3 ⟨p, vh3, rfl, hm3, hb3⟩; have HM3 := Lib.hid (show Mgr w3 w2.heap.size p (playS (xs.take 0)).h (playS (xs.take 0)).q vh3 (.slice none 0 0) from hm3); have HB3 := Lib.hid hb3; clear hm3 hb3))
    obtain ⟨w4, px, e1, e2, hb4, h4⟩ := boxes1 w3 tS #[.slice none 0 0, .slice none 0 0]
    rw [e1, e2]
    have hpx : w3.heap.size ≤ px := by omega
    have HK0 := Lib.hid (show KC w2 w4 w2.heap.size p px (playS (xs.take 0)) (playS (xs.take 0)) vh3 (.slice none 0 0) (.slice none 0 0) (.slice none 0 0) from by
      have hm := HM3.out.below hb4
      refine ⟨hm, h4, ⟨none, 0, 0, rfl, LocksAt.nil, fun _ => rfl, Nat.le_refl _, fun b off e => by cases e⟩, ⟨none, 0, 0, rfl, LocksAt.nil, fun _ => rfl, Nat.le_refl _, fun b off e => by cases e⟩, fun hf => ?_, HB3.out.trans (hb4.mono HB3.out.size), Nat.le_trans HB3.out.size hb4.size, Nat.le_trans HB3.out.size hpx⟩
      have := (HM3.out.ge (HM3.out.foot.2 (hm.foot.1 hf))).2
      omega)
    have HZ := Lib.hid HB2.out.size
    clear e1 e2 hb4 h4 hpx
    go_wp2
    go_loopw [28] (fun i wr => ∃ (k : Nat) (vh vq v1 v2 : Value), k ≤ n ∧ i = .int .i64 k ∧ KC w2 wr w2.heap.size p px (playS (xs.take k)) (playS (xs.take k)) vh vq v1 v2) (fun i _ => n - (intOf i).toNat)
    case atStart => exact ⟨0, _, _, _, _, Nat.zero_le _, rfl, HK0.out⟩
    case round =>
      obtain ⟨k, vh, vq, v1, v2, hk, rfl, hkc⟩ := hrel
      have HK := Lib.hid hkc
      have HB := Lib.hid hkc.low
      have hsz := hkc.base.1
      clear hkc
      by_cases hlt : k < n
      · have hs := HA.out.below (HB2.out.trans (HB.out.mono HZ.out))
        obtain ⟨b, off, a, rfl, hx⟩ := hs.at_ hlt
        have HR := Lib.hid (hs.row hx)
        have HX := Lib.hid (playS_take hx)
        clear hs hx
        go_upto_region 9 with (refine wpList_load_cells rfl 34 (.tmp 30) rfl ⟨b, off + k * 7, none⟩ rfl _ _ HR.out Try.underlying34 rfl hlenA ?_)
        obtain ⟨w5, g5, e1, e2, hb5, h5⟩ := boxes1 wr 34 (aa a)
        unfold aa at e1
        rw [e1, e2]
        have HK5 := Lib.hid (HK.out.below hb5)
        have HC5 := Lib.hid h5
        have hg5 : ¬ Foot w5 p g5 := fun hf => by
          have := (HK.out.mgr.ge (HK.out.mgr.foot.2 (HK5.out.mgr.foot.1 hf))).2
          omega
        have HG5 := Lib.hid hg5
        have hgx : g5 ≠ px := by
          have := HK.out.box.lt
          omega
        have HGX := Lib.hid hgx
        have hk2 : (playS (xs.take k)).h.length + (playS (xs.take k)).q.length ≤ 50 := by
          have h1 := playS_len (xs.take k)
          have h2 := List.length_take_le k xs
          omega
        have HGD := Lib.hid (playS_good (xs.take k))
        have HVD := Lib.hid (playS_valids (xs.take k))
        have HGD1 := Lib.hid (playS_good (xs.take (k + 1)))
        have HVD1 := Lib.hid (playS_valids (xs.take (k + 1)))
        have hk3 : (playS (xs.take (k + 1))).h.length + (playS (xs.take (k + 1))).q.length ≤ 50 := by
          have h1 := playS_len (xs.take (k + 1))
          have h2 := List.length_take_le (k + 1) xs
          omega
        clear e1 e2 hb5 h5 hg5 hgx
        generalize playS (xs.take k) = s at *
        generalize hT : playS (xs.take (k + 1)) = t at *
        have HT := Lib.hid hT
        clear hT
        obtain ⟨sh, sq⟩ := s
        have HK2 := Lib.hid hk2
        have HK3 := Lib.hid hk3
        have HLT := Lib.hid hlt
        go_upto_region 10 with (first | (refine wpList_load_cells rfl 34 (.tmp 6) rfl ⟨g5, 0, none⟩ rfl _ _ HC5.out.add Try.underlying34 rfl hlenA ?_) | (go_at_call 14; refine (lkDo a w2.heap.size p sh sq vh vq _ HK5.out.mgr (by simp only at hk2; omega) HGD.out HVD.out).mono ?_; rintro e w6 ⟨v6, vh6, vq6, rfl, ho6, hm6, hv6, ha6⟩; rw [← HX.out] at hm6; have HO6 := Lib.hid ho6; have HK6 := Lib.hid (HK5.out.moved hm6 hv6); have HC6 := Lib.hid (HC5.out.moved hv6 HG5.out); have hg6 := hv6.out (v := .slice (some ⟨g5, 0, none⟩) 0 0) (fun k hk => by simp [Value.ownBlock] at hk; subst hk; exact HC5.out.lt) (fun k hk => by simp [Value.ownBlock] at hk; subst hk; exact HG5.out) g5 rfl; have HG6 := Lib.hid hg6; have HA6 := Lib.hid ha6; have HZ6 := Lib.hid hv6.size; clear ho6 hm6 hv6 ha6 hg6))
        have HZ7 := Lib.hid (show w6.heap.size ≤ (w6.alloc (.cells #[] 3)).heap.size from by simp)
        have HE7 := Lib.hid (OwnI.empty w6 w5.heap.size HZ6.out)
        have HK7 := Lib.hid (HK6.out.below (below_alloc (Below.refl _ w6) (.cells #[] 3)))
        have HC7 := Lib.hid (HC6.out.alloc (.cells #[] 3))
        have HO7 := Lib.hid (HO6.out.alloc (.cells #[] 3))
        obtain ⟨q0, q1, q2, q3, q4, q5, q6⟩ := acells HC7.out
        obtain ⟨p0, p1, p2, p3, p4, p5, p6⟩ := acells HC6.out
        obtain ⟨code, hcode⟩ : ∃ code, (act ⟨sh, sq⟩ a.kind a.l).2.1 = code := ⟨_, rfl⟩
        obtain ⟨outs, houts⟩ : ∃ outs, (act ⟨sh, sq⟩ a.kind a.l).2.2 = outs := ⟨_, rfl⟩
        rw [hcode]
        rw [houts] at HO7
        have HCD := Lib.hid hcode
        have HOT := Lib.hid houts
        have holen : outs.length ≤ 50 := by
          rw [← houts]
          have := act_outs ⟨sh, sq⟩ a.kind a.l
          simp only at this
          omega
        clear hcode houts
        go_upto_block 2 with (fail)
        generalize w6.alloc (.cells #[] 3) = w7 at HK7 HC7 HO7 HZ7 HE7 q0 q1 q2 q3 q4 q5 q6 ⊢
        clear p0 p1 p2 p3 p4 p5 p6
        go_cut [9, 10] (fun fv wv wx => fv = .int .i64 code ∧ OwnI wx w5.heap.size wv outs ∧ OwnI wx w5.heap.size v6 outs ∧ ∃ va vb, KC w2 wx w2.heap.size p px t t vh6 vq6 va vb)
        case first =>
          by_cases h1 : a.kind.tmod 3 = 1
          · have hb1 : (a.kind.tmod 3 == 1) = true := by simp [h1]
            have HACT := Lib.hid (show act ⟨sh, sq⟩ a.kind a.l = ((P46.cancel ⟨sh, sq⟩ a.l.unit).1, 0, (P46.cancel ⟨sh, sq⟩ a.l.unit).2) from by unfold act; rw [if_pos h1])
            rw [HACT.out] at HX HCD HOT
            have HTX := Lib.hid HX.out
            clear h1
            go_wp2_with (first | (refine wpList_load_cells rfl tS (.tmp 4) rfl ⟨px, 0, none⟩ rfl _ _ HK7.out.box.add Try.underlying51 rfl hlenS ?_) | (go_at_call 29; refine (refCancel a.l.unit (XF w7 p px) _ _ sh sq _ HK7.out.held HK7.out.queue HK7.out.fresh (by have := HK2.out; omega)).mono ?_; rintro e w8 ⟨va, vb, vo, rfl, ha8, hb8, ho8, hbe8⟩; obtain ⟨Aa, na, ca, hva, -⟩ := id ha8; obtain ⟨Ab, nb, cb, hvb, -⟩ := id hb8; subst hva; subst hvb; have HK8 := Lib.hid (HK7.out.below hbe8); have HK9 := Lib.hid (HK7.out.put hbe8 (s' := (P46.cancel ⟨sh, sq⟩ a.l.unit).1) ha8 hb8); have HO8 := Lib.hid ((ho8.base (C := w5.heap.size) (by have := HZ6.out; have := HZ7.out; omega)).setPx HK8.out.box (.slice Aa na ca) (.slice Ab nb cb)); have HP8 := Lib.hid ((HO7.out.below hbe8).setPx HK8.out.box (.slice Aa na ca) (.slice Ab nb cb)); have hq0 := HK8.out.box.cell 0; have hq1 := HK8.out.box.cell 1; have hf0 := HK8.out.box.frozen 0; have hf1 := HK8.out.box.frozen 1; have hpl := HK8.out.box.lt; simp at hq0 hq1; clear ha8 hb8 ho8 hbe8))
            go_meet
            case rel => exact ⟨by rw [← HCD.out], by rw [← HOT.out]; exact HO8.out, HP8.out, _, _, by have := HK9.out; rw [← HTX.out] at this; exact this⟩
          · have hb1 : (a.kind.tmod 3 == 1) = false := by simp [h1]
            by_cases h2 : a.kind.tmod 3 = 2
            · have hb2 : (a.kind.tmod 3 == 2) = true := by simp [h2]
              have HACT := Lib.hid (show act ⟨sh, sq⟩ a.kind a.l = ((P46.release ⟨sh, sq⟩ a.l.unit).1, 0, (P46.release ⟨sh, sq⟩ a.l.unit).2) from by unfold act; rw [if_neg h1, if_pos h2])
              rw [HACT.out] at HX HCD HOT
              have HTX := Lib.hid HX.out
              clear h1 h2
              go_wp2_with (first | (refine wpList_load_cells rfl tS (.tmp 4) rfl ⟨px, 0, none⟩ rfl _ _ HK7.out.box.add Try.underlying51 rfl hlenS ?_) | (go_at_call 30; refine (refRelease a.l.unit (XF w7 p px) _ _ sh sq _ HK7.out.held HK7.out.queue HK7.out.fresh (by have := HK2.out; omega)).mono ?_; rintro e w8 ⟨va, vb, vo, rfl, ha8, hb8, ho8, hbe8⟩; obtain ⟨Aa, na, ca, hva, -⟩ := id ha8; obtain ⟨Ab, nb, cb, hvb, -⟩ := id hb8; subst hva; subst hvb; have HK8 := Lib.hid (HK7.out.below hbe8); have HK9 := Lib.hid (HK7.out.put hbe8 (s' := (P46.release ⟨sh, sq⟩ a.l.unit).1) ha8 hb8); have HO8 := Lib.hid ((ho8.base (C := w5.heap.size) (by have := HZ6.out; have := HZ7.out; omega)).setPx HK8.out.box (.slice Aa na ca) (.slice Ab nb cb)); have HP8 := Lib.hid ((HO7.out.below hbe8).setPx HK8.out.box (.slice Aa na ca) (.slice Ab nb cb)); have hq0 := HK8.out.box.cell 0; have hq1 := HK8.out.box.cell 1; have hf0 := HK8.out.box.frozen 0; have hf1 := HK8.out.box.frozen 1; have hpl := HK8.out.box.lt; simp at hq0 hq1; clear ha8 hb8 ho8 hbe8))
              go_meet
              case rel => exact ⟨by rw [← HCD.out], by rw [← HOT.out]; exact HO8.out, HP8.out, _, _, by have := HK9.out; rw [← HTX.out] at this; exact this⟩
            · have hb2 : (a.kind.tmod 3 == 2) = false := by simp [h2]
              have HACT := Lib.hid (show act ⟨sh, sq⟩ a.kind a.l = ((request ⟨sh, sq⟩ a.l).1, (request ⟨sh, sq⟩ a.l).2, []) from by unfold act; rw [if_neg h1, if_neg h2])
              rw [HACT.out] at HX HCD HOT
              have HTX := Lib.hid HX.out
              clear h1 h2
              go_wp2_with (first | (refine wpList_load_cells rfl tS (.tmp 4) rfl ⟨px, 0, none⟩ rfl _ _ HK7.out.box.add Try.underlying51 rfl hlenS ?_) | (go_at_call 31; refine (refRequest a.l (XF w7 p px) _ _ sh sq _ HK7.out.held HK7.out.queue HK7.out.fresh (by have := HK2.out; omega) HGD.out).mono ?_; rintro e w8 ⟨va, vb, rfl, ha8, hb8, hbe8⟩; obtain ⟨Aa, na, ca, hva, -⟩ := id ha8; obtain ⟨Ab, nb, cb, hvb, -⟩ := id hb8; subst hva; subst hvb; have HK8 := Lib.hid (HK7.out.below hbe8); have HK9 := Lib.hid (HK7.out.put hbe8 (s' := (request ⟨sh, sq⟩ a.l).1) ha8 hb8); have HO8 := Lib.hid ((HE7.out.below hbe8).setPx HK8.out.box (.slice Aa na ca) (.slice Ab nb cb)); have HP8 := Lib.hid ((HO7.out.below hbe8).setPx HK8.out.box (.slice Aa na ca) (.slice Ab nb cb)); have hq0 := HK8.out.box.cell 0; have hq1 := HK8.out.box.cell 1; have hf0 := HK8.out.box.frozen 0; have hf1 := HK8.out.box.frozen 1; have hpl := HK8.out.box.lt; simp at hq0 hq1; clear ha8 hb8 hbe8))
              go_meet
              case rel => exact ⟨by rw [← HCD.out], by rw [← HOT.out]; exact HO8.out, HP8.out, _, _, by have := HK9.out; rw [← HTX.out] at this; exact this⟩
        case rest =>
          obtain ⟨rfl, how, hov, va, vb, hkc⟩ := hcut
          have HWv := Lib.hid how
          have HVv := Lib.hid hov
          have HK9 := Lib.hid hkc
          clear how hov hkc q0 q1 q2 q3 q4 q5 q6
          obtain ⟨Ao, co, hvo, -, -⟩ := HVv.out.cells
          obtain ⟨Aw, cw, hvw, -, -⟩ := HWv.out.cells
          subst hvo hvw
          go_upto_region 18 with (go_at_call 21; refine (lkAll w2.heap.size p t.h t.q _ _ _ HK9.out.mgr (by omega)).mono ?_; rintro e w10 ⟨x1, x2, rfl, ho1, ho2, -, hb10⟩; have HH1 := Lib.hid ho1; have HH2 := Lib.hid ho2; have HK10 := Lib.hid (HK9.out.below hb10); have HW10 := Lib.hid (HWv.out.below hb10); have HV10 := Lib.hid (HVv.out.below hb10); clear ho1 ho2 hb10)
          obtain ⟨B1, c1, hx1, hq1, -⟩ := HH1.out.cells
          obtain ⟨B2, c2, hx2, hq2, -⟩ := HH2.out.cells
          subst hx1 hx2
          obtain ⟨D1, m1, d1, D2, m2, d2, rfl, rfl, hr1, hr2⟩ : ∃ D1 m1 d1 D2 m2 d2, va = .slice D1 m1 d1 ∧ vb = .slice D2 m2 d2 ∧ LocksAt w10 D1 m1 t.h ∧ LocksAt w10 D2 m2 t.q := by
            obtain ⟨D1, m1, d1, e1, h1, -⟩ := HK10.out.held
            obtain ⟨D2, m2, d2, e2, h2, -⟩ := HK10.out.queue
            exact ⟨_, _, _, _, _, _, e1, e2, h1, h2⟩
          have HQ1 := Lib.hid hq1
          have HQ2 := Lib.hid hq2
          have HR1 := Lib.hid hr1
          have HR2 := Lib.hid hr2
          have hm1 : m1 ≤ 50 := by have := hr1.len; omega
          have hm2 : m2 ≤ 50 := by have := hr2.len; omega
          have hz0 := HK10.out.box.cell 0
          have hz1 := HK10.out.box.cell 1
          simp at hz0 hz1
          clear hq1 hq2 hr1 hr2
          go_upto_region 20 with (first | (go_at_call 28; refine (refInts Ao Aw _ _ co cw outs outs _ HV10.out.reads.1 HW10.out.reads.1 (by omega)).mono ?_; rintro e w11 ⟨rfl, hb11⟩; rw [show decide (outs = outs) = true from by simp]; have HK11 := Lib.hid (HK10.out.below hb11); have HB11 := Lib.hid hb11; have hz0 := HK11.out.box.cell 0; have hz1 := HK11.out.box.cell 1; simp at hz0 hz1; clear hb11) | (go_at_call 22; first | (have hq9 := HK12; clear hq9; refine (refLocks B2 D2 _ m2 c2 d2 t.q t.q _ (HQ2.out.below HB12.out) (HR2.out.below HB12.out) (by omega)).mono ?_; rintro e w13 ⟨rfl, hb13⟩; rw [show decide (t.q = t.q) = true from by simp]; have HK13 := Lib.hid (HK12.out.below hb13); clear hb13) | (refine (refLocks B1 D1 _ m1 c1 d1 t.h t.h _ (HQ1.out.below HB11.out) (HR1.out.below HB11.out) (by omega)).mono ?_; rintro e w12 ⟨rfl, hb12⟩; rw [show decide (t.h = t.h) = true from by simp]; have HK12 := Lib.hid (HK11.out.below hb12); have HB12 := Lib.hid (below_then HB11.out hb12); have hz0 := HK12.out.box.cell 0; have hz1 := HK12.out.box.cell 1; simp at hz0 hz1; clear hb12)))
          have HK14' := Lib.hid HK13.out
          have HAU := Lib.hid (HA.out.below (HB2.out.trans (HK13.out.low.mono HZ.out)))
          go_upto_block 4 with (go_at_call 13; refine (lkUnits _ n c xs _ HAU.out (by omega)).mono ?_; rintro e w14 ⟨v14, rfl, ho14, hb14⟩; have HK14 := Lib.hid (HK13.out.below hb14); obtain ⟨E1, e1c, hv14, hi14, hl14⟩ := ho14.cells; subst hv14; have HI14 := Lib.hid hi14; clear ho14 hb14 hi14 hl14)
          obtain ⟨ne, hne⟩ : ∃ ne, (setL (unitsA xs)).length = ne := ⟨_, rfl⟩
          rw [hne] at HI14 ⊢
          have hne50 : ne ≤ 50 := by
            rw [← hne]
            have h1 := setL_len (unitsA xs)
            have h2 : (unitsA xs).length = n := by unfold unitsA; rw [List.length_map]; exact HA.out.len
            omega
          generalize setL (unitsA xs) = us at HI14
          clear hne hz0 hz1 HK HB HR hsz HK5 HC5 HG5 HK6 HC6 HG6 HZ6 HA6 HO6 HO7 HK7 HC7 HZ7 HE7 HVv HWv HW10 HV10 HK9 HK10 HH1 HH2 HQ1 HQ2 HR1 HR2 HK11 HB11 HK12 HB12 HK13 HK14' HAU
          obtain ⟨wo, hwo⟩ : ∃ wo : World, wo = wr := ⟨_, rfl⟩
          clear hwo
          go_loopw [100] (fun i wr => ∃ j : Nat, j ≤ ne ∧ i = .int .i64 j ∧ Below w14.heap.size w14 wr) (fun i _ => ne - (intOf i).toNat)
          case atStart => exact ⟨0, Nat.zero_le _, rfl, Below.refl _ _⟩
          case round =>
            obtain ⟨j, hj, rfl, hbj⟩ := hrel
            have HJ := Lib.hid hbj
            have hszj := hbj.size
            clear hbj
            by_cases hltj : j < ne
            · have HLJ := Lib.hid hltj
              obtain ⟨bu, ou, u, rfl, hu, hu0⟩ := (HI14.out.below HJ.out).at_ hltj
              have HKr := Lib.hid (HK14.out.below HJ.out)
              clear hu
              cases hi : idx t.q u with
              | none =>
                have HIX := Lib.hid hi
                clear hi
                go_upto_region 24 with (go_at_call 16; refine (lkWaits_none u w2.heap.size p t.h t.q _ _ _ HKr.out.mgr (by omega) HIX.out).mono ?_; rintro e w15 ⟨he15, hb15⟩; rw [lvZ] at he15; subst he15; have HK15 := Lib.hid (HKr.out.below hb15); have HJ15 := Lib.hid (HJ.out.trans (hb15.mono hszj)); clear hb15)
                obtain ⟨w16, g15, e1, e2, hb16, h16⟩ := boxes1 w15 tL (la zeroL)
                rw [zeroLC] at e1 h16
                rw [e1, e2]
                have HK16 := Lib.hid (HK15.out.below hb16)
                have HJ16 := Lib.hid (HJ15.out.trans (hb16.mono HJ15.out.size))
                have HX16 := Lib.hid h16
                obtain ⟨F2, f2, fc2, eq2, hf2, -⟩ := HK16.out.queue
                cases eq2
                have HF2 := Lib.hid hf2
                have hy1 := HK16.out.box.cell 1
                simp at hy1
                have HOWN := Lib.hid (own_idx_none HIX.out)
                clear e1 e2 hb16 h16 hf2 hu0
                go_upto_region 25 with (go_at_call 32; refine (refOf u D2 m2 d2 t.q _ HF2.out (by omega)).mono ?_; rintro e w17 ⟨v17, rfl, ho17, hb17⟩; rw [HOWN.out] at ho17; obtain ⟨A17, c17, hv17, -, -⟩ := ho17.cells; simp only [List.length_nil] at hv17; subst hv17; have HK17 := Lib.hid (HK16.out.below hb17); have HJ17 := Lib.hid (HJ16.out.trans (hb17.mono HJ16.out.size)); have HX17 := Lib.hid (HX16.out.below hb17); have HO17 := Lib.hid ho17; clear ho17 hb17)
                clear hy1
                have HKZ := Lib.hid HK17.out
                obtain ⟨G1, k1, kc1, eg1, hg1, -⟩ := HKZ.out.held
                cases eg1
                obtain ⟨G2, k2, kc2, eg2, hg2, -⟩ := HKZ.out.queue
                cases eg2
                have HL1 := Lib.hid hg1
                have HL2 := Lib.hid hg2
                have HBL := Lib.hid (show (P46.blockers t u).length ≤ 100000 from by
                  have := blockers_len t u
                  omega)
                have hpx0 := HKZ.out.box.cell 0
                simp at hpx0
                have HPX := Lib.hid hpx0
                clear hg1 hg2 hpx0
                have hne0 := fun w => run_neq_lock w zeroL zeroL
                have hgd0 := fun w op a b => run_eqGuard_lock w op a b zeroL zeroL
                simp only [lvZ, decide_true, Bool.not_true] at hne0 hgd0
                refine wp_region_frame (F := ?FA) 45 (by kernel_rfl) (by kernel_rfl) (fun w1 => Below w17.heap.size w17 w1)
                  (fun i v w1 => match i with
                    | 0 => v = .bool false
                    | 1 => v = .slice A17 0 c17
                    | 2 => v = .int .i64 0
                    | 3 => v = .bool false
                    | 4 => v = .bool false
                    | 5 => v = .bool false
                    | 6 => v = .bool false
                    | 7 => v = .bool false
                    | 13 => v = .bool false
                    | 14 => v = .bool false
                    | 15 => v = .bool false
                    | 16 => v = .bool false
                    | 17 => v = .bool true
                    | 18 => v = .bool true
                    | 19 => v = .agg #[.int .i64 0, .int .i64 0, .string ⟨#[]⟩, .string ⟨#[]⟩, .bool false, .bool false]
                    | 20 => v = .agg #[.int .i64 0, .int .i64 0, .string ⟨#[]⟩, .string ⟨#[]⟩, .bool false, .bool false]
                    | 21 => v = .bool false
                    | 22 => v = .bool false
                    | 23 => v = .bool false
                    | 24 => v = .bool false
                    | 25 => v = .pointer (some ⟨p, 0, none⟩)
                    | 26 => v = .int .i64 u
                    | 27 => OwnI w1 w17.heap.size v (setL (P46.blockers t u))
                    | 28 => v = .agg #[.slice D1 m1 d1, .slice D2 m2 d2]
                    | 29 => v = .int .i64 u
                    | 30 => OwnI w1 w17.heap.size v (P46.blockers t u)
                    | 31 => OwnI w1 w17.heap.size v (setL (P46.blockers t u))
                    | 32 => v = .bool true
                    | 33 => v = .bool false
                    | 34 => v = .bool false
                    | 35 => v = .bool false
                    | 36 => v = .pointer (some ⟨p, 0, none⟩)
                    | 37 => v = .int .i64 u
                    | 38 => OwnL w1 w17.heap.size tL v (own t.h u)
                    | 39 => v = .pointer (some ⟨px, 0, none⟩)
                    | 40 => v = .slice D1 m1 d1
                    | 41 => v = .int .i64 u
                    | 42 => OwnL w1 w17.heap.size tL v (own t.h u)
                    | 43 => v = .bool true
                    | 44 => v = .bool false
                    | _ => True) (fun _ _ h1 h2 => h1.trans (h2.mono h1.size)) ?hFR ((Below.refl _ _).drew) ?hF ?hops ?hQ
                case hF =>
                  intro u_
                  rewrite [putAll_mid u_ _ _ 0 114 (by kernel_rfl) (of_decide_eq_true (by kernel_rfl))]
                  rewrite [show ((List.range' 0 _).map u_) = [u_ 0, u_ 1, u_ 2, u_ 3, u_ 4, u_ 5, u_ 6, u_ 7, u_ 8, u_ 9, u_ 10, u_ 11, u_ 12, u_ 13, u_ 14, u_ 15, u_ 16, u_ 17, u_ 18, u_ 19, u_ 20, u_ 21, u_ 22, u_ 23, u_ 24, u_ 25, u_ 26, u_ 27, u_ 28, u_ 29, u_ 30, u_ 31, u_ 32, u_ 33, u_ 34, u_ 35, u_ 36, u_ 37, u_ 38, u_ 39, u_ 40, u_ 41, u_ 42, u_ 43, u_ 44] from by kernel_rfl]
                  simp only [List.take_succ_cons, List.take_zero, List.drop_succ_cons, List.drop_zero, List.cons_append, List.nil_append, List.length_cons, List.length_nil, Nat.zero_add, Nat.reduceAdd]
                  exact rfl
                case hFR =>
                  intro ii vv w1 w2 hf hR
                  match ii, hf with
                  | 0, hf => exact hf
                  | 1, hf => exact hf
                  | 2, hf => exact hf
                  | 3, hf => exact hf
                  | 4, hf => exact hf
                  | 5, hf => exact hf
                  | 6, hf => exact hf
                  | 7, hf => exact hf
                  | 8, _ => trivial
                  | 9, _ => trivial
                  | 10, _ => trivial
                  | 11, _ => trivial
                  | 12, _ => trivial
                  | 13, hf => exact hf
                  | 14, hf => exact hf
                  | 15, hf => exact hf
                  | 16, hf => exact hf
                  | 17, hf => exact hf
                  | 18, hf => exact hf
                  | 19, hf => exact hf
                  | 20, hf => exact hf
                  | 21, hf => exact hf
                  | 22, hf => exact hf
                  | 23, hf => exact hf
                  | 24, hf => exact hf
                  | 25, hf => exact hf
                  | 26, hf => exact hf
                  | 27, hf => exact OwnI.below hf hR
                  | 28, hf => exact hf
                  | 29, hf => exact hf
                  | 30, hf => exact OwnI.below hf hR
                  | 31, hf => exact OwnI.below hf hR
                  | 32, hf => exact hf
                  | 33, hf => exact hf
                  | 34, hf => exact hf
                  | 35, hf => exact hf
                  | 36, hf => exact hf
                  | 37, hf => exact hf
                  | 38, hf => exact OwnL.below hf hR
                  | 39, hf => exact hf
                  | 40, hf => exact hf
                  | 41, hf => exact hf
                  | 42, hf => exact OwnL.below hf hR
                  | 43, hf => exact hf
                  | 44, hf => exact hf
                  | n + 45, _ => trivial
                case hops =>
                  refine allOps_cons ?_ (allOps_cons ?_ (allOps_cons ?_ (allOps_cons ?_ (allOps_cons ?_ (allOps_cons ?_ (allOps_cons ?_ (allOps_cons ?_ (allOps_cons ?_ (allOps_cons ?_ (allOps_cons ?_ (allOps_cons ?_ (allOps_cons ?_ (allOps_cons ?_ (allOps_cons ?_ (allOps_cons ?_ (allOps_cons ?_ (allOps_cons ?_ (allOps_cons ?_ (allOps_cons ?_ (allOps_cons ?_ (allOps_cons ?_ (allOps_cons ?_ (allOps_cons ?_ (allOps_cons ?_ (allOps_cons ?_ (allOps_cons ?_ (allOps_cons ?_ (allOps_cons ?_ (allOps_cons ?_ (allOps_cons ?_ (allOps_cons ?_ (allOps_cons ?_ (allOps_cons ?_ (allOps_cons ?_ (allOps_cons ?_ (allOps_cons ?_ (allOps_cons ?_ (allOps_cons ?_ (allOps_cons ?_ (allOps_cons ?_ (allOps_cons ?_ (allOps_cons ?_ (allOps_cons ?_ (allOps_cons ?_ allOps_nil))))))))))))))))))))))))))))))))))))))))))))
                  · intro u_ w1 hC hd K hK
                    try dsimp only at hK ⊢
                    simp only [Act.put, List.setIfInBounds_toArray, List.set_cons_succ, List.set_cons_zero] at hK
                    go_simp
                    exact hK _ _ (Below.refl _ _) rfl
                  · intro u_ w1 hC hd K hK
                    try dsimp only at hK ⊢
                    simp only [Act.put, List.setIfInBounds_toArray, List.set_cons_succ, List.set_cons_zero] at hK
                    go_simp
                    exact hK _ _ (Below.refl _ _) rfl
                  · intro u_ w1 hC hd K hK
                    have h1 : u_ 1 = .slice A17 0 c17 := hd 1 rfl
                    simp only [h1] at hK ⊢
                    simp only [Act.put, List.setIfInBounds_toArray, List.set_cons_succ, List.set_cons_zero] at hK
                    go_simp
                    exact hK _ _ (Below.refl _ _) rfl
                  · intro u_ w1 hC hd K hK
                    have h2 : u_ 2 = .int .i64 0 := hd 2 rfl
                    simp only [h2] at hK ⊢
                    simp only [Act.put, List.setIfInBounds_toArray, List.set_cons_succ, List.set_cons_zero] at hK
                    go_simp
                    exact hK _ _ (Below.refl _ _) rfl
                  · intro u_ w1 hC hd K hK
                    have h0 : u_ 0 = .bool false := hd 0 rfl
                    have h3 : u_ 3 = .bool false := hd 3 rfl
                    simp only [h0, h3] at hK ⊢
                    simp only [Act.put, List.setIfInBounds_toArray, List.set_cons_succ, List.set_cons_zero] at hK
                    go_simp
                    exact hK _ _ (Below.refl _ _) rfl
                  · intro u_ w1 hC hd K hK
                    have h4 : u_ 4 = .bool false := hd 4 rfl
                    simp only [h4] at hK ⊢
                    simp only [Act.put, List.setIfInBounds_toArray, List.set_cons_succ, List.set_cons_zero] at hK
                    go_simp
                    exact hK _ _ (Below.refl _ _) rfl
                  · intro u_ w1 hC hd K hK
                    have h5 : u_ 5 = .bool false := hd 5 rfl
                    simp only [h5] at hK ⊢
                    simp only [Act.put, List.setIfInBounds_toArray, List.set_cons_succ, List.set_cons_zero] at hK
                    go_simp
                    exact hK _ _ (Below.refl _ _) rfl
                  · intro u_ w1 hC hd K hK
                    have h5 : u_ 5 = .bool false := hd 5 rfl
                    have h6 : u_ 6 = .bool false := hd 6 rfl
                    simp only [h5, h6] at hK ⊢
                    simp only [Act.put, List.setIfInBounds_toArray, List.set_cons_succ, List.set_cons_zero] at hK
                    go_simp
                    exact hK _ _ (Below.refl _ _) rfl
                  · intro u_ w1 hC hd K hK
                    have h7 : u_ 7 = .bool false := hd 7 rfl
                    simp only [h7] at hK ⊢
                    simp only [Act.put, List.setIfInBounds_toArray, List.set_cons_succ, List.set_cons_zero] at hK
                    go_simp
                    exact hK _ _ (Below.refl _ _) trivial
                  · intro u_ w1 hC hd K hK
                    have h7 : u_ 7 = .bool false := hd 7 rfl
                    simp only [h7] at hK ⊢
                    simp only [Act.put, List.setIfInBounds_toArray, List.set_cons_succ, List.set_cons_zero] at hK
                    go_simp
                    exact hK _ _ (Below.refl _ _) trivial
                  · intro u_ w1 hC hd K hK
                    have h7 : u_ 7 = .bool false := hd 7 rfl
                    simp only [h7] at hK ⊢
                    simp only [Act.put, List.setIfInBounds_toArray, List.set_cons_succ, List.set_cons_zero] at hK
                    go_simp
                    exact hK _ _ (Below.refl _ _) trivial
                  · intro u_ w1 hC hd K hK
                    have h7 : u_ 7 = .bool false := hd 7 rfl
                    simp only [h7] at hK ⊢
                    simp only [Act.put, List.setIfInBounds_toArray, List.set_cons_succ, List.set_cons_zero] at hK
                    go_simp
                    exact hK _ _ (Below.refl _ _) trivial
                  · intro u_ w1 hC hd K hK
                    have h7 : u_ 7 = .bool false := hd 7 rfl
                    simp only [h7] at hK ⊢
                    simp only [Act.put, List.setIfInBounds_toArray, List.set_cons_succ, List.set_cons_zero] at hK
                    go_simp
                    exact hK _ _ (Below.refl _ _) trivial
                  · intro u_ w1 hC hd K hK
                    have h5 : u_ 5 = .bool false := hd 5 rfl
                    have h7 : u_ 7 = .bool false := hd 7 rfl
                    simp only [h5, h7] at hK ⊢
                    simp only [Act.put, List.setIfInBounds_toArray, List.set_cons_succ, List.set_cons_zero] at hK
                    go_simp
                    exact hK _ _ (Below.refl _ _) rfl
                  · intro u_ w1 hC hd K hK
                    have h5 : u_ 5 = .bool false := hd 5 rfl
                    have h13 : u_ 13 = .bool false := hd 13 rfl
                    simp only [h5, h13] at hK ⊢
                    simp only [Act.put, List.setIfInBounds_toArray, List.set_cons_succ, List.set_cons_zero] at hK
                    go_simp
                    exact hK _ _ (Below.refl _ _) rfl
                  · intro u_ w1 hC hd K hK
                    have h14 : u_ 14 = .bool false := hd 14 rfl
                    simp only [h14] at hK ⊢
                    simp only [Act.put, List.setIfInBounds_toArray, List.set_cons_succ, List.set_cons_zero] at hK
                    go_simp
                    exact hK _ _ (Below.refl _ _) rfl
                  · intro u_ w1 hC hd K hK
                    have h15 : u_ 15 = .bool false := hd 15 rfl
                    simp only [h15] at hK ⊢
                    simp only [Act.put, List.setIfInBounds_toArray, List.set_cons_succ, List.set_cons_zero] at hK
                    go_simp
                    exact hK _ _ (Below.refl _ _) rfl
                  · intro u_ w1 hC hd K hK
                    have h15 : u_ 15 = .bool false := hd 15 rfl
                    have h16 : u_ 16 = .bool false := hd 16 rfl
                    simp only [h15, h16] at hK ⊢
                    simp only [Act.put, List.setIfInBounds_toArray, List.set_cons_succ, List.set_cons_zero] at hK
                    go_simp
                    exact hK _ _ (Below.refl _ _) rfl
                  · intro u_ w1 hC hd K hK
                    have h15 : u_ 15 = .bool false := hd 15 rfl
                    have h17 : u_ 17 = .bool true := hd 17 rfl
                    simp only [h15, h17] at hK ⊢
                    simp only [Act.put, List.setIfInBounds_toArray, List.set_cons_succ, List.set_cons_zero] at hK
                    go_simp
                    exact hK _ _ (Below.refl _ _) rfl
                  · intro u_ w1 hC hd K hK
                    have h18 : u_ 18 = .bool true := hd 18 rfl
                    simp only [h18] at hK ⊢
                    simp only [Act.put, List.setIfInBounds_toArray, List.set_cons_succ, List.set_cons_zero] at hK
                    rw [if_pos (show Region.wanted _ _ = true from rfl)]
                    exact wp_load_cells 32 (.tmp 15) rfl ⟨g15, 0, none⟩ rfl #[.int .i64 0, .int .i64 0, .string ⟨#[]⟩, .string ⟨#[]⟩, .bool false, .bool false] _ ((HX17.out.below hC).add) Try.underlying32 rfl hlenL (hK _ _ (Below.refl _ _) rfl)
                  · intro u_ w1 hC hd K hK
                    have h18 : u_ 18 = .bool true := hd 18 rfl
                    simp only [h18] at hK ⊢
                    simp only [Act.put, List.setIfInBounds_toArray, List.set_cons_succ, List.set_cons_zero] at hK
                    go_simp
                    exact hK _ _ (Below.refl _ _) rfl
                  · intro u_ w1 hC hd K hK
                    have h18 : u_ 18 = .bool true := hd 18 rfl
                    have h19 : u_ 19 = .agg #[.int .i64 0, .int .i64 0, .string ⟨#[]⟩, .string ⟨#[]⟩, .bool false, .bool false] := hd 19 rfl
                    have h20 : u_ 20 = .agg #[.int .i64 0, .int .i64 0, .string ⟨#[]⟩, .string ⟨#[]⟩, .bool false, .bool false] := hd 20 rfl
                    simp only [h18, h19, h20] at hK ⊢
                    simp only [Act.put, List.setIfInBounds_toArray, List.set_cons_succ, List.set_cons_zero] at hK
                    go_simp
                    exact hK _ _ (Below.refl _ _) rfl
                  · intro u_ w1 hC hd K hK
                    have h15 : u_ 15 = .bool false := hd 15 rfl
                    have h18 : u_ 18 = .bool true := hd 18 rfl
                    have h21 : u_ 21 = .bool false := hd 21 rfl
                    simp only [h15, h18, h21] at hK ⊢
                    simp only [Act.put, List.setIfInBounds_toArray, List.set_cons_succ, List.set_cons_zero] at hK
                    go_simp
                    exact hK _ _ (Below.refl _ _) rfl
                  · intro u_ w1 hC hd K hK
                    have h15 : u_ 15 = .bool false := hd 15 rfl
                    have h22 : u_ 22 = .bool false := hd 22 rfl
                    simp only [h15, h22] at hK ⊢
                    simp only [Act.put, List.setIfInBounds_toArray, List.set_cons_succ, List.set_cons_zero] at hK
                    go_simp
                    exact hK _ _ (Below.refl _ _) rfl
                  · intro u_ w1 hC hd K hK
                    have h23 : u_ 23 = .bool false := hd 23 rfl
                    simp only [h23] at hK ⊢
                    simp only [Act.put, List.setIfInBounds_toArray, List.set_cons_succ, List.set_cons_zero] at hK
                    go_simp
                    exact hK _ _ (Below.refl _ _) rfl
                  · intro u_ w1 hC hd K hK
                    have h24 : u_ 24 = .bool false := hd 24 rfl
                    simp only [h24] at hK ⊢
                    simp only [Act.put, List.setIfInBounds_toArray, List.set_cons_succ, List.set_cons_zero] at hK
                    go_simp
                    exact hK _ _ (Below.refl _ _) rfl
                  · intro u_ w1 hC hd K hK
                    have h24 : u_ 24 = .bool false := hd 24 rfl
                    simp only [h24] at hK ⊢
                    simp only [Act.put, List.setIfInBounds_toArray, List.set_cons_succ, List.set_cons_zero] at hK
                    go_simp
                    exact hK _ _ (Below.refl _ _) rfl
                  · intro u_ w1 hC hd K hK
                    have h24 : u_ 24 = .bool false := hd 24 rfl
                    have h25 : u_ 25 = .pointer (some ⟨p, 0, none⟩) := hd 25 rfl
                    have h26 : u_ 26 = .int .i64 u := hd 26 rfl
                    simp only [h24, h25, h26] at hK ⊢
                    simp only [Act.put, List.setIfInBounds_toArray, List.set_cons_succ, List.set_cons_zero] at hK
                    rw [if_pos (show Region.wanted _ _ = true from rfl)]
                    go_simp
                    refine (lkBlockersFn u w2.heap.size p t.h t.q _ _ w1 (HKZ.out.mgr.below hC) (by omega) HVD1.out).mono ?_
                    rintro e w' ⟨v, rfl, ho, hb⟩
                    exact hK v w' hb (ho.base hC.size)
                  · intro u_ w1 hC hd K hK
                    have h24 : u_ 24 = .bool false := hd 24 rfl
                    simp only [h24] at hK ⊢
                    simp only [Act.put, List.setIfInBounds_toArray, List.set_cons_succ, List.set_cons_zero] at hK
                    rw [if_pos (show Region.wanted _ _ = true from rfl)]
                    exact wp_load_cells tS (.tmp 4) rfl ⟨px, 0, none⟩ rfl #[.slice D1 m1 d1, .slice D2 m2 d2] _ ((HKZ.out.box.below hC).add) Try.underlying51 rfl hlenS (hK _ _ (Below.refl _ _) rfl)
                  · intro u_ w1 hC hd K hK
                    have h24 : u_ 24 = .bool false := hd 24 rfl
                    simp only [h24] at hK ⊢
                    simp only [Act.put, List.setIfInBounds_toArray, List.set_cons_succ, List.set_cons_zero] at hK
                    go_simp
                    exact hK _ _ (Below.refl _ _) rfl
                  · intro u_ w1 hC hd K hK
                    have h24 : u_ 24 = .bool false := hd 24 rfl
                    have h28 : u_ 28 = .agg #[.slice D1 m1 d1, .slice D2 m2 d2] := hd 28 rfl
                    have h29 : u_ 29 = .int .i64 u := hd 29 rfl
                    simp only [h24, h28, h29] at hK ⊢
                    simp only [Act.put, List.setIfInBounds_toArray, List.set_cons_succ, List.set_cons_zero] at hK
                    rw [if_pos (show Region.wanted _ _ = true from rfl)]
                    go_simp
                    refine (refBlockers u D1 D2 m1 d1 m2 d2 t.h t.q w1 (HL1.out.below hC) (HL2.out.below hC) (by omega) (by omega)).mono ?_
                    rintro e w' ⟨v, rfl, ho, hb⟩
                    exact hK v w' hb (ho.base hC.size)
                  · intro u_ w1 hC hd K hK
                    have h24 : u_ 24 = .bool false := hd 24 rfl
                    have h30 : OwnI w1 w17.heap.size (u_ 30) (P46.blockers t u) := hd 30 rfl
                    obtain ⟨A30, c30, e30, hs30, -⟩ := h30.cells
                    simp only [e30] at hK ⊢
                    simp only [h24] at hK ⊢
                    simp only [Act.put, List.setIfInBounds_toArray, List.set_cons_succ, List.set_cons_zero] at hK
                    rw [if_pos (show Region.wanted _ _ = true from rfl)]
                    go_simp
                    refine (refSet A30 _ c30 (P46.blockers t u) w1 hs30 HBL.out).mono ?_
                    rintro e w' ⟨v, rfl, ho, hb⟩
                    exact hK v w' hb (ho.base hC.size)
                  · intro u_ w1 hC hd K hK
                    have h24 : u_ 24 = .bool false := hd 24 rfl
                    have h27 : OwnI w1 w17.heap.size (u_ 27) (setL (P46.blockers t u)) := hd 27 rfl
                    have h31 : OwnI w1 w17.heap.size (u_ 31) (setL (P46.blockers t u)) := hd 31 rfl
                    obtain ⟨A27, c27, e27, hs27, -⟩ := h27.cells
                    obtain ⟨A31, c31, e31, hs31, -⟩ := h31.cells
                    simp only [e27, e31] at hK ⊢
                    simp only [h24] at hK ⊢
                    simp only [Act.put, List.setIfInBounds_toArray, List.set_cons_succ, List.set_cons_zero] at hK
                    rw [if_pos (show Region.wanted _ _ = true from rfl)]
                    go_simp
                    refine (refInts A27 A31 _ _ c27 c31 _ _ w1 hs27 hs31 (by have h1 := setL_len (P46.blockers t u); have h2 := HBL.out; omega)).mono ?_
                    rintro e w' ⟨rfl, hb⟩
                    exact hK _ w' hb (by rw [decide_eq_true rfl])
                  · intro u_ w1 hC hd K hK
                    have h24 : u_ 24 = .bool false := hd 24 rfl
                    have h32 : u_ 32 = .bool true := hd 32 rfl
                    simp only [h24, h32] at hK ⊢
                    simp only [Act.put, List.setIfInBounds_toArray, List.set_cons_succ, List.set_cons_zero] at hK
                    go_simp
                    exact hK _ _ (Below.refl _ _) rfl
                  · intro u_ w1 hC hd K hK
                    have h24 : u_ 24 = .bool false := hd 24 rfl
                    have h33 : u_ 33 = .bool false := hd 33 rfl
                    simp only [h24, h33] at hK ⊢
                    simp only [Act.put, List.setIfInBounds_toArray, List.set_cons_succ, List.set_cons_zero] at hK
                    go_simp
                    exact hK _ _ (Below.refl _ _) rfl
                  · intro u_ w1 hC hd K hK
                    have h34 : u_ 34 = .bool false := hd 34 rfl
                    simp only [h34] at hK ⊢
                    simp only [Act.put, List.setIfInBounds_toArray, List.set_cons_succ, List.set_cons_zero] at hK
                    go_simp
                    exact hK _ _ (Below.refl _ _) rfl
                  · intro u_ w1 hC hd K hK
                    have h35 : u_ 35 = .bool false := hd 35 rfl
                    simp only [h35] at hK ⊢
                    simp only [Act.put, List.setIfInBounds_toArray, List.set_cons_succ, List.set_cons_zero] at hK
                    go_simp
                    exact hK _ _ (Below.refl _ _) rfl
                  · intro u_ w1 hC hd K hK
                    have h35 : u_ 35 = .bool false := hd 35 rfl
                    simp only [h35] at hK ⊢
                    simp only [Act.put, List.setIfInBounds_toArray, List.set_cons_succ, List.set_cons_zero] at hK
                    go_simp
                    exact hK _ _ (Below.refl _ _) rfl
                  · intro u_ w1 hC hd K hK
                    have h35 : u_ 35 = .bool false := hd 35 rfl
                    have h36 : u_ 36 = .pointer (some ⟨p, 0, none⟩) := hd 36 rfl
                    have h37 : u_ 37 = .int .i64 u := hd 37 rfl
                    simp only [h35, h36, h37] at hK ⊢
                    simp only [Act.put, List.setIfInBounds_toArray, List.set_cons_succ, List.set_cons_zero] at hK
                    rw [if_pos (show Region.wanted _ _ = true from rfl)]
                    go_simp
                    refine (lkHeld u w2.heap.size p t.h t.q _ _ w1 (HKZ.out.mgr.below hC) (by omega)).mono ?_
                    rintro e w' ⟨v, rfl, ho, hb⟩
                    exact hK v w' hb (ho.base hC.size)
                  · intro u_ w1 hC hd K hK
                    have h35 : u_ 35 = .bool false := hd 35 rfl
                    simp only [h35] at hK ⊢
                    simp only [Act.put, List.setIfInBounds_toArray, List.set_cons_succ, List.set_cons_zero] at hK
                    go_simp
                    exact hK _ _ (Below.refl _ _) rfl
                  · intro u_ w1 hC hd K hK
                    have h35 : u_ 35 = .bool false := hd 35 rfl
                    have h39 : u_ 39 = .pointer (some ⟨px, 0, none⟩) := hd 39 rfl
                    have hc1 : w1.cell? ⟨px, 0, none⟩ = some (.slice D1 m1 d1) := by rw [hC.cell (p := ⟨px, 0, none⟩) (World.block_lt_of_cell? w17 _ HPX.out)]; exact HPX.out
                    simp only [h35, h39] at hK ⊢
                    simp only [Act.put, List.setIfInBounds_toArray, List.set_cons_succ, List.set_cons_zero] at hK
                    go_simp
                    exact hK _ _ (Below.refl _ _) rfl
                  · intro u_ w1 hC hd K hK
                    have h35 : u_ 35 = .bool false := hd 35 rfl
                    simp only [h35] at hK ⊢
                    simp only [Act.put, List.setIfInBounds_toArray, List.set_cons_succ, List.set_cons_zero] at hK
                    go_simp
                    exact hK _ _ (Below.refl _ _) rfl
                  · intro u_ w1 hC hd K hK
                    have h35 : u_ 35 = .bool false := hd 35 rfl
                    have h40 : u_ 40 = .slice D1 m1 d1 := hd 40 rfl
                    have h41 : u_ 41 = .int .i64 u := hd 41 rfl
                    simp only [h35, h40, h41] at hK ⊢
                    simp only [Act.put, List.setIfInBounds_toArray, List.set_cons_succ, List.set_cons_zero] at hK
                    rw [if_pos (show Region.wanted _ _ = true from rfl)]
                    go_simp
                    refine (refOf u D1 m1 d1 t.h w1 (HL1.out.below hC) (by omega)).mono ?_
                    rintro e w' ⟨v, rfl, ho, hb⟩
                    exact hK v w' hb (ho.base hC.size)
                  · intro u_ w1 hC hd K hK
                    have h35 : u_ 35 = .bool false := hd 35 rfl
                    have h38 : OwnL w1 w17.heap.size tL (u_ 38) (own t.h u) := hd 38 rfl
                    have h42 : OwnL w1 w17.heap.size tL (u_ 42) (own t.h u) := hd 42 rfl
                    obtain ⟨A38, c38, e38, hs38, -⟩ := h38.cells
                    obtain ⟨A42, c42, e42, hs42, -⟩ := h42.cells
                    simp only [e38, e42] at hK ⊢
                    simp only [h35] at hK ⊢
                    simp only [Act.put, List.setIfInBounds_toArray, List.set_cons_succ, List.set_cons_zero] at hK
                    rw [if_pos (show Region.wanted _ _ = true from rfl)]
                    go_simp
                    refine (refLocks A38 A42 _ _ c38 c42 _ _ w1 hs38 hs42 (by have h1 : (own t.h u).length ≤ t.h.length := List.length_filter_le _ _; omega)).mono ?_
                    rintro e w' ⟨rfl, hb⟩
                    exact hK _ w' hb (by rw [decide_eq_true rfl])
                  · intro u_ w1 hC hd K hK
                    have h35 : u_ 35 = .bool false := hd 35 rfl
                    have h43 : u_ 43 = .bool true := hd 43 rfl
                    simp only [h35, h43] at hK ⊢
                    simp only [Act.put, List.setIfInBounds_toArray, List.set_cons_succ, List.set_cons_zero] at hK
                    go_simp
                    exact hK _ _ (Below.refl _ _) rfl
                case hQ =>
                  intro u_ wt hC hf
                  have h35 : u_ 35 = .bool false := hf 35 (by omega)
                  have h44 : u_ 44 = .bool false := hf 44 (by omega)
                  have HC := Lib.hid (HJ17.out.trans (hC.mono HJ17.out.size))
                  clear hC hf
                  simp only [List.drop_succ_cons, List.drop_zero, h35, h44]
                  clear h35 h44
                  go_wp2
                  go_roundw
                  case rel => exact ⟨j + 1, HLJ.out, by go_num, HC.out⟩
                  case measure => have := HLJ.out; simp [intOf]; omega
              | some i =>
                obtain ⟨l, rr, hl, how⟩ := own_idx_some hi
                have HIX := Lib.hid hi
                have HLL := Lib.hid hl
                have HOWN := Lib.hid how
                clear hi hl how
                go_upto_region 24 with (go_at_call 16; refine (lkWaits_some u w2.heap.size p t.h t.q _ _ _ HKr.out.mgr (by omega) i l HIX.out HLL.out).mono ?_; rintro e w15 ⟨he15, hb15⟩; rw [show lv l = .agg #[.int .i64 l.unit, .int .i64 l.id, .string ⟨l.r.low.toArray⟩, .string ⟨l.r.high.toArray⟩, .bool l.r.e, .bool l.x] from rfl] at he15; subst he15; have HK15 := Lib.hid (HKr.out.below hb15); have HJ15 := Lib.hid (HJ.out.trans (hb15.mono hszj)); clear hb15)
                obtain ⟨w16, g15, e1, e2, hb16, h16⟩ := boxes1 w15 tL (la l)
                unfold la at e1 h16
                rw [e1, e2]
                have HK16 := Lib.hid (HK15.out.below hb16)
                have HJ16 := Lib.hid (HJ15.out.trans (hb16.mono HJ15.out.size))
                have HX16 := Lib.hid h16
                obtain ⟨F2, f2, fc2, eq2, hf2, -⟩ := HK16.out.queue
                cases eq2
                have HF2 := Lib.hid hf2
                have hy1 := HK16.out.box.cell 1
                simp at hy1
                clear e1 e2 hb16 h16 hf2 hu0
                go_upto_region 25 with (go_at_call 32; refine (refOf u D2 m2 d2 t.q _ HF2.out (by omega)).mono ?_; rintro e w17 ⟨v17, rfl, ho17, hb17⟩; rw [HOWN.out] at ho17; obtain ⟨A17, c17, hv17, hs17, -⟩ := ho17.cells; subst hv17; have HK17 := Lib.hid (HK16.out.below hb17); have HJ17 := Lib.hid (HJ16.out.trans (hb17.mono HJ16.out.size)); have HX17 := Lib.hid (HX16.out.below hb17); have HS17 := Lib.hid hs17; clear ho17 hb17 hs17)
                clear hy1
                obtain ⟨n17, hn17e⟩ : ∃ n17, rr.length + 1 = n17 := ⟨_, rfl⟩
                have hn17 : 0 < n17 := by omega
                rw [List.length_cons, hn17e] at HS17
                rw [hn17e]
                have hd17 : decide (0 < n17) = true := decide_eq_true hn17
                obtain ⟨b17, o17, y17, hA17, hy17, -⟩ := HS17.out.at_ hn17
                have hyl : y17 = l := by simpa using hy17.symm
                subst hyl
                subst hA17
                have hr17 := HS17.out.row hy17
                simp only [Nat.zero_mul, Nat.add_zero] at hr17
                have HR17 := Lib.hid hr17
                clear hn17e hy17 hr17
                have HKZ := Lib.hid HK17.out
                obtain ⟨G1, k1, kc1, eg1, hg1, -⟩ := HKZ.out.held
                cases eg1
                obtain ⟨G2, k2, kc2, eg2, hg2, -⟩ := HKZ.out.queue
                cases eg2
                have HL1 := Lib.hid hg1
                have HL2 := Lib.hid hg2
                have HBL := Lib.hid (show (P46.blockers t u).length ≤ 100000 from by
                  have := blockers_len t u
                  omega)
                have hpx0 := HKZ.out.box.cell 0
                simp at hpx0
                have HPX := Lib.hid hpx0
                clear hg1 hg2 hpx0
                have hne0 := fun w => run_neq_lock w y17 y17
                have hgd0 := fun w op a b => run_eqGuard_lock w op a b y17 y17
                unfold lv at hne0 hgd0
                simp only [decide_true, Bool.not_true] at hne0
                refine wp_region_frame (F := ?FB) 45 (by kernel_rfl) (by kernel_rfl) (fun w1 => Below w17.heap.size w17 w1)
                  (fun i v w1 => match i with
                    | 0 => v = .bool true
                    | 1 => v = .slice (some ⟨b17, o17, none⟩) n17 c17
                    | 2 => v = .int .i64 n17
                    | 3 => v = .bool true
                    | 4 => v = .bool false
                    | 5 => v = .bool false
                    | 6 => v = .bool true
                    | 7 => v = .bool true
                    | 8 => v = .agg #[.int .i64 y17.unit, .int .i64 y17.id, .string ⟨y17.r.low.toArray⟩, .string ⟨y17.r.high.toArray⟩, .bool y17.r.e, .bool y17.x]
                    | 9 => v = .slice (some ⟨b17, o17, none⟩) n17 c17
                    | 10 => v = .pointer (some ⟨b17, o17, none⟩)
                    | 11 => v = .agg #[.int .i64 y17.unit, .int .i64 y17.id, .string ⟨y17.r.low.toArray⟩, .string ⟨y17.r.high.toArray⟩, .bool y17.r.e, .bool y17.x]
                    | 12 => v = .bool false
                    | 13 => v = .bool false
                    | 14 => v = .bool false
                    | 15 => v = .bool false
                    | 16 => v = .bool true
                    | 17 => v = .bool false
                    | 18 => v = .bool false
                    | 22 => v = .bool false
                    | 23 => v = .bool false
                    | 24 => v = .bool false
                    | 25 => v = .pointer (some ⟨p, 0, none⟩)
                    | 26 => v = .int .i64 u
                    | 27 => OwnI w1 w17.heap.size v (setL (P46.blockers t u))
                    | 28 => v = .agg #[.slice D1 m1 d1, .slice D2 m2 d2]
                    | 29 => v = .int .i64 u
                    | 30 => OwnI w1 w17.heap.size v (P46.blockers t u)
                    | 31 => OwnI w1 w17.heap.size v (setL (P46.blockers t u))
                    | 32 => v = .bool true
                    | 33 => v = .bool false
                    | 34 => v = .bool false
                    | 35 => v = .bool false
                    | 36 => v = .pointer (some ⟨p, 0, none⟩)
                    | 37 => v = .int .i64 u
                    | 38 => OwnL w1 w17.heap.size tL v (own t.h u)
                    | 39 => v = .pointer (some ⟨px, 0, none⟩)
                    | 40 => v = .slice D1 m1 d1
                    | 41 => v = .int .i64 u
                    | 42 => OwnL w1 w17.heap.size tL v (own t.h u)
                    | 43 => v = .bool true
                    | 44 => v = .bool false
                    | _ => True) (fun _ _ h1 h2 => h1.trans (h2.mono h1.size)) ?hFR ((Below.refl _ _).drew) ?hF ?hops ?hQ
                case hF =>
                  intro u_
                  rewrite [putAll_mid u_ _ _ 0 114 (by kernel_rfl) (of_decide_eq_true (by kernel_rfl))]
                  rewrite [show ((List.range' 0 _).map u_) = [u_ 0, u_ 1, u_ 2, u_ 3, u_ 4, u_ 5, u_ 6, u_ 7, u_ 8, u_ 9, u_ 10, u_ 11, u_ 12, u_ 13, u_ 14, u_ 15, u_ 16, u_ 17, u_ 18, u_ 19, u_ 20, u_ 21, u_ 22, u_ 23, u_ 24, u_ 25, u_ 26, u_ 27, u_ 28, u_ 29, u_ 30, u_ 31, u_ 32, u_ 33, u_ 34, u_ 35, u_ 36, u_ 37, u_ 38, u_ 39, u_ 40, u_ 41, u_ 42, u_ 43, u_ 44] from by kernel_rfl]
                  simp only [List.take_succ_cons, List.take_zero, List.drop_succ_cons, List.drop_zero, List.cons_append, List.nil_append, List.length_cons, List.length_nil, Nat.zero_add, Nat.reduceAdd]
                  exact rfl
                case hFR =>
                  intro ii vv w1 w2 hf hR
                  match ii, hf with
                  | 0, hf => exact hf
                  | 1, hf => exact hf
                  | 2, hf => exact hf
                  | 3, hf => exact hf
                  | 4, hf => exact hf
                  | 5, hf => exact hf
                  | 6, hf => exact hf
                  | 7, hf => exact hf
                  | 8, hf => exact hf
                  | 9, hf => exact hf
                  | 10, hf => exact hf
                  | 11, hf => exact hf
                  | 12, hf => exact hf
                  | 13, hf => exact hf
                  | 14, hf => exact hf
                  | 15, hf => exact hf
                  | 16, hf => exact hf
                  | 17, hf => exact hf
                  | 18, hf => exact hf
                  | 19, _ => trivial
                  | 20, _ => trivial
                  | 21, _ => trivial
                  | 22, hf => exact hf
                  | 23, hf => exact hf
                  | 24, hf => exact hf
                  | 25, hf => exact hf
                  | 26, hf => exact hf
                  | 27, hf => exact OwnI.below hf hR
                  | 28, hf => exact hf
                  | 29, hf => exact hf
                  | 30, hf => exact OwnI.below hf hR
                  | 31, hf => exact OwnI.below hf hR
                  | 32, hf => exact hf
                  | 33, hf => exact hf
                  | 34, hf => exact hf
                  | 35, hf => exact hf
                  | 36, hf => exact hf
                  | 37, hf => exact hf
                  | 38, hf => exact OwnL.below hf hR
                  | 39, hf => exact hf
                  | 40, hf => exact hf
                  | 41, hf => exact hf
                  | 42, hf => exact OwnL.below hf hR
                  | 43, hf => exact hf
                  | 44, hf => exact hf
                  | n + 45, _ => trivial
                case hops =>
                  refine allOps_cons ?_ (allOps_cons ?_ (allOps_cons ?_ (allOps_cons ?_ (allOps_cons ?_ (allOps_cons ?_ (allOps_cons ?_ (allOps_cons ?_ (allOps_cons ?_ (allOps_cons ?_ (allOps_cons ?_ (allOps_cons ?_ (allOps_cons ?_ (allOps_cons ?_ (allOps_cons ?_ (allOps_cons ?_ (allOps_cons ?_ (allOps_cons ?_ (allOps_cons ?_ (allOps_cons ?_ (allOps_cons ?_ (allOps_cons ?_ (allOps_cons ?_ (allOps_cons ?_ (allOps_cons ?_ (allOps_cons ?_ (allOps_cons ?_ (allOps_cons ?_ (allOps_cons ?_ (allOps_cons ?_ (allOps_cons ?_ (allOps_cons ?_ (allOps_cons ?_ (allOps_cons ?_ (allOps_cons ?_ (allOps_cons ?_ (allOps_cons ?_ (allOps_cons ?_ (allOps_cons ?_ (allOps_cons ?_ (allOps_cons ?_ (allOps_cons ?_ (allOps_cons ?_ (allOps_cons ?_ (allOps_cons ?_ allOps_nil))))))))))))))))))))))))))))))))))))))))))))
                  · intro u_ w1 hC hd K hK
                    try dsimp only at hK ⊢
                    simp only [Act.put, List.setIfInBounds_toArray, List.set_cons_succ, List.set_cons_zero] at hK
                    go_simp
                    exact hK _ _ (Below.refl _ _) rfl
                  · intro u_ w1 hC hd K hK
                    try dsimp only at hK ⊢
                    simp only [Act.put, List.setIfInBounds_toArray, List.set_cons_succ, List.set_cons_zero] at hK
                    go_simp
                    exact hK _ _ (Below.refl _ _) rfl
                  · intro u_ w1 hC hd K hK
                    have h1 : u_ 1 = .slice (some ⟨b17, o17, none⟩) n17 c17 := hd 1 rfl
                    simp only [h1] at hK ⊢
                    simp only [Act.put, List.setIfInBounds_toArray, List.set_cons_succ, List.set_cons_zero] at hK
                    go_simp
                    exact hK _ _ (Below.refl _ _) rfl
                  · intro u_ w1 hC hd K hK
                    have h2 : u_ 2 = .int .i64 n17 := hd 2 rfl
                    simp only [h2] at hK ⊢
                    simp only [Act.put, List.setIfInBounds_toArray, List.set_cons_succ, List.set_cons_zero] at hK
                    go_simp
                    exact hK _ _ (Below.refl _ _) rfl
                  · intro u_ w1 hC hd K hK
                    have h0 : u_ 0 = .bool true := hd 0 rfl
                    have h3 : u_ 3 = .bool true := hd 3 rfl
                    simp only [h0, h3] at hK ⊢
                    simp only [Act.put, List.setIfInBounds_toArray, List.set_cons_succ, List.set_cons_zero] at hK
                    go_simp
                    exact hK _ _ (Below.refl _ _) rfl
                  · intro u_ w1 hC hd K hK
                    have h4 : u_ 4 = .bool false := hd 4 rfl
                    simp only [h4] at hK ⊢
                    simp only [Act.put, List.setIfInBounds_toArray, List.set_cons_succ, List.set_cons_zero] at hK
                    go_simp
                    exact hK _ _ (Below.refl _ _) rfl
                  · intro u_ w1 hC hd K hK
                    have h5 : u_ 5 = .bool false := hd 5 rfl
                    simp only [h5] at hK ⊢
                    simp only [Act.put, List.setIfInBounds_toArray, List.set_cons_succ, List.set_cons_zero] at hK
                    go_simp
                    exact hK _ _ (Below.refl _ _) rfl
                  · intro u_ w1 hC hd K hK
                    have h5 : u_ 5 = .bool false := hd 5 rfl
                    have h6 : u_ 6 = .bool true := hd 6 rfl
                    simp only [h5, h6] at hK ⊢
                    simp only [Act.put, List.setIfInBounds_toArray, List.set_cons_succ, List.set_cons_zero] at hK
                    go_simp
                    exact hK _ _ (Below.refl _ _) rfl
                  · intro u_ w1 hC hd K hK
                    have h7 : u_ 7 = .bool true := hd 7 rfl
                    simp only [h7] at hK ⊢
                    simp only [Act.put, List.setIfInBounds_toArray, List.set_cons_succ, List.set_cons_zero] at hK
                    rw [if_pos (show Region.wanted _ _ = true from rfl)]
                    exact wp_load_cells 32 (.tmp 15) rfl ⟨g15, 0, none⟩ rfl #[.int .i64 y17.unit, .int .i64 y17.id, .string ⟨y17.r.low.toArray⟩, .string ⟨y17.r.high.toArray⟩, .bool y17.r.e, .bool y17.x] _ ((HX17.out.below hC).add) Try.underlying32 rfl hlenL (hK _ _ (Below.refl _ _) rfl)
                  · intro u_ w1 hC hd K hK
                    have h7 : u_ 7 = .bool true := hd 7 rfl
                    simp only [h7] at hK ⊢
                    simp only [Act.put, List.setIfInBounds_toArray, List.set_cons_succ, List.set_cons_zero] at hK
                    go_simp
                    exact hK _ _ (Below.refl _ _) rfl
                  · intro u_ w1 hC hd K hK
                    have h7 : u_ 7 = .bool true := hd 7 rfl
                    have h9 : u_ 9 = .slice (some ⟨b17, o17, none⟩) n17 c17 := hd 9 rfl
                    simp only [h7, h9] at hK ⊢
                    simp only [Act.put, List.setIfInBounds_toArray, List.set_cons_succ, List.set_cons_zero] at hK
                    go_simp
                    exact hK _ _ (Below.refl _ _) rfl
                  · intro u_ w1 hC hd K hK
                    have h7 : u_ 7 = .bool true := hd 7 rfl
                    have h10 : u_ 10 = .pointer (some ⟨b17, o17, none⟩) := hd 10 rfl
                    simp only [h7, h10] at hK ⊢
                    simp only [Act.put, List.setIfInBounds_toArray, List.set_cons_succ, List.set_cons_zero] at hK
                    rw [if_pos (show Region.wanted _ _ = true from rfl)]
                    exact wp_load_cells 32 (.tmp 124) rfl ⟨b17, o17, none⟩ rfl #[.int .i64 y17.unit, .int .i64 y17.id, .string ⟨y17.r.low.toArray⟩, .string ⟨y17.r.high.toArray⟩, .bool y17.r.e, .bool y17.x] _ (fun j u hj => by rw [hC.cell (p := (⟨b17, o17, none⟩ : Addr).add j) (World.block_lt_of_cell? w17 _ (HR17.out j u hj))]; exact HR17.out j u hj) Try.underlying32 rfl hlenL (hK _ _ (Below.refl _ _) rfl)
                  · intro u_ w1 hC hd K hK
                    have h7 : u_ 7 = .bool true := hd 7 rfl
                    have h8 : u_ 8 = .agg #[.int .i64 y17.unit, .int .i64 y17.id, .string ⟨y17.r.low.toArray⟩, .string ⟨y17.r.high.toArray⟩, .bool y17.r.e, .bool y17.x] := hd 8 rfl
                    have h11 : u_ 11 = .agg #[.int .i64 y17.unit, .int .i64 y17.id, .string ⟨y17.r.low.toArray⟩, .string ⟨y17.r.high.toArray⟩, .bool y17.r.e, .bool y17.x] := hd 11 rfl
                    simp only [h7, h8, h11] at hK ⊢
                    simp only [Act.put, List.setIfInBounds_toArray, List.set_cons_succ, List.set_cons_zero] at hK
                    go_simp
                    exact hK _ _ (Below.refl _ _) rfl
                  · intro u_ w1 hC hd K hK
                    have h5 : u_ 5 = .bool false := hd 5 rfl
                    have h7 : u_ 7 = .bool true := hd 7 rfl
                    have h12 : u_ 12 = .bool false := hd 12 rfl
                    simp only [h5, h7, h12] at hK ⊢
                    simp only [Act.put, List.setIfInBounds_toArray, List.set_cons_succ, List.set_cons_zero] at hK
                    go_simp
                    exact hK _ _ (Below.refl _ _) rfl
                  · intro u_ w1 hC hd K hK
                    have h5 : u_ 5 = .bool false := hd 5 rfl
                    have h13 : u_ 13 = .bool false := hd 13 rfl
                    simp only [h5, h13] at hK ⊢
                    simp only [Act.put, List.setIfInBounds_toArray, List.set_cons_succ, List.set_cons_zero] at hK
                    go_simp
                    exact hK _ _ (Below.refl _ _) rfl
                  · intro u_ w1 hC hd K hK
                    have h14 : u_ 14 = .bool false := hd 14 rfl
                    simp only [h14] at hK ⊢
                    simp only [Act.put, List.setIfInBounds_toArray, List.set_cons_succ, List.set_cons_zero] at hK
                    go_simp
                    exact hK _ _ (Below.refl _ _) rfl
                  · intro u_ w1 hC hd K hK
                    have h15 : u_ 15 = .bool false := hd 15 rfl
                    simp only [h15] at hK ⊢
                    simp only [Act.put, List.setIfInBounds_toArray, List.set_cons_succ, List.set_cons_zero] at hK
                    go_simp
                    exact hK _ _ (Below.refl _ _) rfl
                  · intro u_ w1 hC hd K hK
                    have h15 : u_ 15 = .bool false := hd 15 rfl
                    have h16 : u_ 16 = .bool true := hd 16 rfl
                    simp only [h15, h16] at hK ⊢
                    simp only [Act.put, List.setIfInBounds_toArray, List.set_cons_succ, List.set_cons_zero] at hK
                    go_simp
                    exact hK _ _ (Below.refl _ _) rfl
                  · intro u_ w1 hC hd K hK
                    have h15 : u_ 15 = .bool false := hd 15 rfl
                    have h17 : u_ 17 = .bool false := hd 17 rfl
                    simp only [h15, h17] at hK ⊢
                    simp only [Act.put, List.setIfInBounds_toArray, List.set_cons_succ, List.set_cons_zero] at hK
                    go_simp
                    exact hK _ _ (Below.refl _ _) rfl
                  · intro u_ w1 hC hd K hK
                    have h18 : u_ 18 = .bool false := hd 18 rfl
                    simp only [h18] at hK ⊢
                    simp only [Act.put, List.setIfInBounds_toArray, List.set_cons_succ, List.set_cons_zero] at hK
                    go_simp
                    exact hK _ _ (Below.refl _ _) trivial
                  · intro u_ w1 hC hd K hK
                    have h18 : u_ 18 = .bool false := hd 18 rfl
                    simp only [h18] at hK ⊢
                    simp only [Act.put, List.setIfInBounds_toArray, List.set_cons_succ, List.set_cons_zero] at hK
                    go_simp
                    exact hK _ _ (Below.refl _ _) trivial
                  · intro u_ w1 hC hd K hK
                    have h18 : u_ 18 = .bool false := hd 18 rfl
                    simp only [h18] at hK ⊢
                    simp only [Act.put, List.setIfInBounds_toArray, List.set_cons_succ, List.set_cons_zero] at hK
                    go_simp
                    exact hK _ _ (Below.refl _ _) trivial
                  · intro u_ w1 hC hd K hK
                    have h15 : u_ 15 = .bool false := hd 15 rfl
                    have h18 : u_ 18 = .bool false := hd 18 rfl
                    simp only [h15, h18] at hK ⊢
                    simp only [Act.put, List.setIfInBounds_toArray, List.set_cons_succ, List.set_cons_zero] at hK
                    go_simp
                    exact hK _ _ (Below.refl _ _) rfl
                  · intro u_ w1 hC hd K hK
                    have h15 : u_ 15 = .bool false := hd 15 rfl
                    have h22 : u_ 22 = .bool false := hd 22 rfl
                    simp only [h15, h22] at hK ⊢
                    simp only [Act.put, List.setIfInBounds_toArray, List.set_cons_succ, List.set_cons_zero] at hK
                    go_simp
                    exact hK _ _ (Below.refl _ _) rfl
                  · intro u_ w1 hC hd K hK
                    have h23 : u_ 23 = .bool false := hd 23 rfl
                    simp only [h23] at hK ⊢
                    simp only [Act.put, List.setIfInBounds_toArray, List.set_cons_succ, List.set_cons_zero] at hK
                    go_simp
                    exact hK _ _ (Below.refl _ _) rfl
                  · intro u_ w1 hC hd K hK
                    have h24 : u_ 24 = .bool false := hd 24 rfl
                    simp only [h24] at hK ⊢
                    simp only [Act.put, List.setIfInBounds_toArray, List.set_cons_succ, List.set_cons_zero] at hK
                    go_simp
                    exact hK _ _ (Below.refl _ _) rfl
                  · intro u_ w1 hC hd K hK
                    have h24 : u_ 24 = .bool false := hd 24 rfl
                    simp only [h24] at hK ⊢
                    simp only [Act.put, List.setIfInBounds_toArray, List.set_cons_succ, List.set_cons_zero] at hK
                    go_simp
                    exact hK _ _ (Below.refl _ _) rfl
                  · intro u_ w1 hC hd K hK
                    have h24 : u_ 24 = .bool false := hd 24 rfl
                    have h25 : u_ 25 = .pointer (some ⟨p, 0, none⟩) := hd 25 rfl
                    have h26 : u_ 26 = .int .i64 u := hd 26 rfl
                    simp only [h24, h25, h26] at hK ⊢
                    simp only [Act.put, List.setIfInBounds_toArray, List.set_cons_succ, List.set_cons_zero] at hK
                    rw [if_pos (show Region.wanted _ _ = true from rfl)]
                    go_simp
                    refine (lkBlockersFn u w2.heap.size p t.h t.q _ _ w1 (HKZ.out.mgr.below hC) (by omega) HVD1.out).mono ?_
                    rintro e w' ⟨v, rfl, ho, hb⟩
                    exact hK v w' hb (ho.base hC.size)
                  · intro u_ w1 hC hd K hK
                    have h24 : u_ 24 = .bool false := hd 24 rfl
                    simp only [h24] at hK ⊢
                    simp only [Act.put, List.setIfInBounds_toArray, List.set_cons_succ, List.set_cons_zero] at hK
                    rw [if_pos (show Region.wanted _ _ = true from rfl)]
                    exact wp_load_cells tS (.tmp 4) rfl ⟨px, 0, none⟩ rfl #[.slice D1 m1 d1, .slice D2 m2 d2] _ ((HKZ.out.box.below hC).add) Try.underlying51 rfl hlenS (hK _ _ (Below.refl _ _) rfl)
                  · intro u_ w1 hC hd K hK
                    have h24 : u_ 24 = .bool false := hd 24 rfl
                    simp only [h24] at hK ⊢
                    simp only [Act.put, List.setIfInBounds_toArray, List.set_cons_succ, List.set_cons_zero] at hK
                    go_simp
                    exact hK _ _ (Below.refl _ _) rfl
                  · intro u_ w1 hC hd K hK
                    have h24 : u_ 24 = .bool false := hd 24 rfl
                    have h28 : u_ 28 = .agg #[.slice D1 m1 d1, .slice D2 m2 d2] := hd 28 rfl
                    have h29 : u_ 29 = .int .i64 u := hd 29 rfl
                    simp only [h24, h28, h29] at hK ⊢
                    simp only [Act.put, List.setIfInBounds_toArray, List.set_cons_succ, List.set_cons_zero] at hK
                    rw [if_pos (show Region.wanted _ _ = true from rfl)]
                    go_simp
                    refine (refBlockers u D1 D2 m1 d1 m2 d2 t.h t.q w1 (HL1.out.below hC) (HL2.out.below hC) (by omega) (by omega)).mono ?_
                    rintro e w' ⟨v, rfl, ho, hb⟩
                    exact hK v w' hb (ho.base hC.size)
                  · intro u_ w1 hC hd K hK
                    have h24 : u_ 24 = .bool false := hd 24 rfl
                    have h30 : OwnI w1 w17.heap.size (u_ 30) (P46.blockers t u) := hd 30 rfl
                    obtain ⟨A30, c30, e30, hs30, -⟩ := h30.cells
                    simp only [e30] at hK ⊢
                    simp only [h24] at hK ⊢
                    simp only [Act.put, List.setIfInBounds_toArray, List.set_cons_succ, List.set_cons_zero] at hK
                    rw [if_pos (show Region.wanted _ _ = true from rfl)]
                    go_simp
                    refine (refSet A30 _ c30 (P46.blockers t u) w1 hs30 HBL.out).mono ?_
                    rintro e w' ⟨v, rfl, ho, hb⟩
                    exact hK v w' hb (ho.base hC.size)
                  · intro u_ w1 hC hd K hK
                    have h24 : u_ 24 = .bool false := hd 24 rfl
                    have h27 : OwnI w1 w17.heap.size (u_ 27) (setL (P46.blockers t u)) := hd 27 rfl
                    have h31 : OwnI w1 w17.heap.size (u_ 31) (setL (P46.blockers t u)) := hd 31 rfl
                    obtain ⟨A27, c27, e27, hs27, -⟩ := h27.cells
                    obtain ⟨A31, c31, e31, hs31, -⟩ := h31.cells
                    simp only [e27, e31] at hK ⊢
                    simp only [h24] at hK ⊢
                    simp only [Act.put, List.setIfInBounds_toArray, List.set_cons_succ, List.set_cons_zero] at hK
                    rw [if_pos (show Region.wanted _ _ = true from rfl)]
                    go_simp
                    refine (refInts A27 A31 _ _ c27 c31 _ _ w1 hs27 hs31 (by have h1 := setL_len (P46.blockers t u); have h2 := HBL.out; omega)).mono ?_
                    rintro e w' ⟨rfl, hb⟩
                    exact hK _ w' hb (by rw [decide_eq_true rfl])
                  · intro u_ w1 hC hd K hK
                    have h24 : u_ 24 = .bool false := hd 24 rfl
                    have h32 : u_ 32 = .bool true := hd 32 rfl
                    simp only [h24, h32] at hK ⊢
                    simp only [Act.put, List.setIfInBounds_toArray, List.set_cons_succ, List.set_cons_zero] at hK
                    go_simp
                    exact hK _ _ (Below.refl _ _) rfl
                  · intro u_ w1 hC hd K hK
                    have h24 : u_ 24 = .bool false := hd 24 rfl
                    have h33 : u_ 33 = .bool false := hd 33 rfl
                    simp only [h24, h33] at hK ⊢
                    simp only [Act.put, List.setIfInBounds_toArray, List.set_cons_succ, List.set_cons_zero] at hK
                    go_simp
                    exact hK _ _ (Below.refl _ _) rfl
                  · intro u_ w1 hC hd K hK
                    have h34 : u_ 34 = .bool false := hd 34 rfl
                    simp only [h34] at hK ⊢
                    simp only [Act.put, List.setIfInBounds_toArray, List.set_cons_succ, List.set_cons_zero] at hK
                    go_simp
                    exact hK _ _ (Below.refl _ _) rfl
                  · intro u_ w1 hC hd K hK
                    have h35 : u_ 35 = .bool false := hd 35 rfl
                    simp only [h35] at hK ⊢
                    simp only [Act.put, List.setIfInBounds_toArray, List.set_cons_succ, List.set_cons_zero] at hK
                    go_simp
                    exact hK _ _ (Below.refl _ _) rfl
                  · intro u_ w1 hC hd K hK
                    have h35 : u_ 35 = .bool false := hd 35 rfl
                    simp only [h35] at hK ⊢
                    simp only [Act.put, List.setIfInBounds_toArray, List.set_cons_succ, List.set_cons_zero] at hK
                    go_simp
                    exact hK _ _ (Below.refl _ _) rfl
                  · intro u_ w1 hC hd K hK
                    have h35 : u_ 35 = .bool false := hd 35 rfl
                    have h36 : u_ 36 = .pointer (some ⟨p, 0, none⟩) := hd 36 rfl
                    have h37 : u_ 37 = .int .i64 u := hd 37 rfl
                    simp only [h35, h36, h37] at hK ⊢
                    simp only [Act.put, List.setIfInBounds_toArray, List.set_cons_succ, List.set_cons_zero] at hK
                    rw [if_pos (show Region.wanted _ _ = true from rfl)]
                    go_simp
                    refine (lkHeld u w2.heap.size p t.h t.q _ _ w1 (HKZ.out.mgr.below hC) (by omega)).mono ?_
                    rintro e w' ⟨v, rfl, ho, hb⟩
                    exact hK v w' hb (ho.base hC.size)
                  · intro u_ w1 hC hd K hK
                    have h35 : u_ 35 = .bool false := hd 35 rfl
                    simp only [h35] at hK ⊢
                    simp only [Act.put, List.setIfInBounds_toArray, List.set_cons_succ, List.set_cons_zero] at hK
                    go_simp
                    exact hK _ _ (Below.refl _ _) rfl
                  · intro u_ w1 hC hd K hK
                    have h35 : u_ 35 = .bool false := hd 35 rfl
                    have h39 : u_ 39 = .pointer (some ⟨px, 0, none⟩) := hd 39 rfl
                    have hc1 : w1.cell? ⟨px, 0, none⟩ = some (.slice D1 m1 d1) := by rw [hC.cell (p := ⟨px, 0, none⟩) (World.block_lt_of_cell? w17 _ HPX.out)]; exact HPX.out
                    simp only [h35, h39] at hK ⊢
                    simp only [Act.put, List.setIfInBounds_toArray, List.set_cons_succ, List.set_cons_zero] at hK
                    go_simp
                    exact hK _ _ (Below.refl _ _) rfl
                  · intro u_ w1 hC hd K hK
                    have h35 : u_ 35 = .bool false := hd 35 rfl
                    simp only [h35] at hK ⊢
                    simp only [Act.put, List.setIfInBounds_toArray, List.set_cons_succ, List.set_cons_zero] at hK
                    go_simp
                    exact hK _ _ (Below.refl _ _) rfl
                  · intro u_ w1 hC hd K hK
                    have h35 : u_ 35 = .bool false := hd 35 rfl
                    have h40 : u_ 40 = .slice D1 m1 d1 := hd 40 rfl
                    have h41 : u_ 41 = .int .i64 u := hd 41 rfl
                    simp only [h35, h40, h41] at hK ⊢
                    simp only [Act.put, List.setIfInBounds_toArray, List.set_cons_succ, List.set_cons_zero] at hK
                    rw [if_pos (show Region.wanted _ _ = true from rfl)]
                    go_simp
                    refine (refOf u D1 m1 d1 t.h w1 (HL1.out.below hC) (by omega)).mono ?_
                    rintro e w' ⟨v, rfl, ho, hb⟩
                    exact hK v w' hb (ho.base hC.size)
                  · intro u_ w1 hC hd K hK
                    have h35 : u_ 35 = .bool false := hd 35 rfl
                    have h38 : OwnL w1 w17.heap.size tL (u_ 38) (own t.h u) := hd 38 rfl
                    have h42 : OwnL w1 w17.heap.size tL (u_ 42) (own t.h u) := hd 42 rfl
                    obtain ⟨A38, c38, e38, hs38, -⟩ := h38.cells
                    obtain ⟨A42, c42, e42, hs42, -⟩ := h42.cells
                    simp only [e38, e42] at hK ⊢
                    simp only [h35] at hK ⊢
                    simp only [Act.put, List.setIfInBounds_toArray, List.set_cons_succ, List.set_cons_zero] at hK
                    rw [if_pos (show Region.wanted _ _ = true from rfl)]
                    go_simp
                    refine (refLocks A38 A42 _ _ c38 c42 _ _ w1 hs38 hs42 (by have h1 : (own t.h u).length ≤ t.h.length := List.length_filter_le _ _; omega)).mono ?_
                    rintro e w' ⟨rfl, hb⟩
                    exact hK _ w' hb (by rw [decide_eq_true rfl])
                  · intro u_ w1 hC hd K hK
                    have h35 : u_ 35 = .bool false := hd 35 rfl
                    have h43 : u_ 43 = .bool true := hd 43 rfl
                    simp only [h35, h43] at hK ⊢
                    simp only [Act.put, List.setIfInBounds_toArray, List.set_cons_succ, List.set_cons_zero] at hK
                    go_simp
                    exact hK _ _ (Below.refl _ _) rfl
                case hQ =>
                  intro u_ wt hC hf
                  have h35 : u_ 35 = .bool false := hf 35 (by omega)
                  have h44 : u_ 44 = .bool false := hf 44 (by omega)
                  have HC := Lib.hid (HJ17.out.trans (hC.mono HJ17.out.size))
                  clear hC hf
                  simp only [List.drop_succ_cons, List.drop_zero, h35, h44]
                  clear h35 h44
                  go_wp2
                  go_roundw
                  case rel => exact ⟨j + 1, HLJ.out, by go_num, HC.out⟩
                  case measure => have := HLJ.out; simp [intOf]; omega
            · have hjn : j = ne := by omega
              subst hjn
              have HKE := Lib.hid (HK14.out.below HJ.out)
              go_wp2
              go_roundw
              case rel => exact ⟨k + 1, _, _, _, _, HLT.out, by go_num, by rw [HT.out]; exact HKE.out⟩
              case measure => have := HLT.out; simp [intOf]; omega
      · have hkn : k = n := by omega
        subst hkn
        go_wp2_with (go_at_call 11; refine (lkAwake _).mono ?_; rintro e w9 ⟨rfl, hb9⟩; have HB9 := Lib.hid hb9; clear hb9)
        go_ret
        exact ⟨rfl, (HB2.out.trans (HB.out.mono HZ.out)).trans (HB9.out.mono (Nat.le_trans HZ.out hsz))⟩
end Go.Proofs.Ytkabfjknpjhonaa
namespace Go.Proofs.Ytkabfjknpjhonaa.lockCalls
open Go.ChangeShapes Go.WideShapes Go.ChangeAt Go.RowKit
open Go.ChangeMaps (open_string shut_string)

theorem own : ownKnob Try.prog.godebug = none := by kernel_rfl
theorem laidOut : laidOutB Try.prog = true := by kernel_rfl

set_option maxRecDepth 100000 in
theorem lifted (os : Os) (started : os.Started) (H : Type) (enc : TypeId × Value → H) :
    ReturnsInHanded {} Try.checked os 8 .any (Rows.lockCallsSpec.pre6 enc Try.prog Try.f8 Rows.lockCallsRow.domain false) (Rows.lockCallsSpec.post enc Try.prog Try.f8 false true false false) := by
  refine returnsInHanded_of_change (C := Try.checked) own started (by kernel_rfl) Try.func8
    (ChangeSpec.witness6 (enc := enc) (C := Try.checked) false ⟨#[], #[.slice none 0 0], []⟩ 8 (by kernel_rfl) (by kernel_rfl) (by kernel_rfl) (by kernel_rfl)) ?_
  intro W base args ds gs before hval0 hW _ _
  have hval : ∀ (j : Nat) t v, Try.f8.params[j]? = some t → args[j]? = some v → Value.okWide Try.prog W .any base t v := hval0
  have hW' := hW
  obtain ⟨p, q, hA0, hV, rfl, hfz, hnd⟩ := hW
  have hA : DataW.TrodAll enc Try.prog W 0 (fun _ => true) true Try.f8.params.toList args.toList ds p := hA0
  rw [Try.params8] at hA hval
  obtain ⟨v0, vs0, d0, ds0, p0, q0, hargs, rfl, rfl, h0, r0⟩ := trodAll_cons hA
  obtain ⟨rfl, rfl, rfl⟩ := trodAll_nil r0
  obtain rfl : args = #[v0] := by cases args; simp_all
  obtain ⟨rfl, rfl⟩ := trodVars_none hV
  have k0 := h0
  have lt0 : ∀ x ∈ p0, x.block < W.heap.size := by obtain ⟨m, hm⟩ := k0; exact DataW.trod_lt m _ _ _ hm
  obtain ⟨A0, n0, c0, rfl⟩ := okWide_slice Try.underlying22 (hval 0 22 v0 rfl rfl)
  obtain ⟨z0, w0, y0, u0⟩ := open_acts_at Try.underlying22 h0
  clear hA0 hval0
  refine (lawCalls A0 n0 c0 z0 W w0 y0 u0).mono fun e W' ⟨he, bel⟩ => ?_
  subst he
  exact ⟨_, rfl, _, _, _, [], _, [], hW', trodAll_mk1 (shut_bool Try.underlying4 _), (trodAll_cons_mk (Below.trod laidOut (by kernel_rfl) (of_decide_eq_true (by kernel_rfl)) k0 bel lt0) trodAll_mk0), rfl, bel.frame _, fun h => by cases h⟩

theorem proved : Rows.LockCallsSaid :=
  OpenClaim.holds_of_wide 8 Try.f8 rfl rfl rfl rfl rfl rfl rfl ⟨rfl, rfl, rfl, rfl, rfl⟩ rfl rfl rfl rfl rfl (by kernel_rfl) Try.func8 (by kernel_rfl)
    (of_decide_eq_true (by kernel_rfl)) (by unfold Func.isWrapper; first | (rw [if_pos (by decide +kernel)]; kernel_rfl) | (rw [if_neg (by decide +kernel)]; exact ⟨rfl, rfl⟩))
    (fun os started H enc _ => lifted os started H enc)
end Go.Proofs.Ytkabfjknpjhonaa.lockCalls
