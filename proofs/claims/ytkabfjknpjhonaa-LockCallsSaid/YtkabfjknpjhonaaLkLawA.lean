/- The walk of LockAgain, its first part: what is held is asked for again. -/
import Derived.Test.YtkabfjknpjhonaaLkLawC
import Derived.Test.YtkabfjknpjhonaaLkSame
import Derived.RegionTactic
import Derived.ChangeAlike
import Derived.BigRegion
namespace Go.Proofs.Ytkabfjknpjhonaa
open Go.RowKit P16 P46
attribute [local go_sem] ByteArray.mk_append_mk ByteArray.extract_mk mk_index

theorem OwnL.reads {w : World} {B : Nat} {e : TypeId} {A : Option Addr} {n c : Nat} {ls : List Lock} (h : OwnL w B e (.slice A n c) ls) : LocksAt w A n ls ∧ ls.length = n := by
  obtain ⟨A9, c9, h9, hq9, -⟩ := h.cells
  injection h9 with h91 h92 h93
  subst h91
  exact ⟨by rw [h92]; exact hq9, h92.symm⟩
theorem OwnL.moved {w w' : World} {B p : Nat} {e : TypeId} {v : Value} {ls : List Lock} (h : OwnL w B e v ls) (m : Moved p w w') (hf : ∀ k, v.ownBlock = some k → ¬ Foot w p k) : OwnL w' B e v ls := by
  refine ⟨h.1, ?_⟩
  rcases h.2 with h1 | ⟨g, cap, cur, rfl, a2, a3, a4⟩
  · exact .inl h1
  · exact .inr ⟨g, cap, cur, rfl, a2, (m.block g (Array.getElem?_eq_some_iff.1 a3).1 (hf g rfl)).trans a3, a4⟩
theorem OwnI.reads {w : World} {B : Nat} {A : Option Addr} {n c : Nat} {xs : List Int} (h : OwnI w B (.slice A n c) xs) : IntsAt w A n xs ∧ xs.length = n := by
  obtain ⟨A9, c9, h9, hq9, -⟩ := h.cells
  injection h9 with h91 h92 h93
  subst h91
  exact ⟨by rw [h92]; exact hq9, h92.symm⟩
/-- A manager, and two lists of locks beside it. -/
def KP (W wr : World) (B p C : Nat) (s : St) (v1 v2 : Value) (h q : List Lock) : Prop :=
  ∃ vh vq, Mgr wr B p s.h s.q vh vq ∧ OwnL wr C tL v1 h ∧ OwnL wr C tL v2 q ∧ (∀ k, v1.ownBlock = some k → ¬ Foot wr p k) ∧ (∀ k, v2.ownBlock = some k → ¬ Foot wr p k) ∧ Below B W wr ∧ B ≤ wr.heap.size
section
variable {W wr w' : World} {B p C : Nat} {s s' : St} {v1 v2 : Value} {h q : List Lock}
theorem KP.below (k : KP W wr B p C s v1 v2 h q) (hb : Below wr.heap.size wr w') : KP W w' B p C s v1 v2 h q := by
  obtain ⟨vh, vq, hm, h1, h2, a1, a2, hbw, hB⟩ := k
  have mv := Moved.of_below hb hm.box.lt
  exact ⟨vh, vq, hm.below hb, h1.below hb, h2.below hb, mv.out (fun k hk => (h1.lt k hk).2) a1, mv.out (fun k hk => (h2.lt k hk).2) a2, hbw.trans (hb.mono hB), Nat.le_trans hB hb.size⟩
theorem KP.moved {vh vq : Value} (k : KP W wr B p C s v1 v2 h q) (hm' : Mgr w' B p s'.h s'.q vh vq) (mv : Moved p wr w') : KP W w' B p C s' v1 v2 h q := by
  obtain ⟨vh0, vq0, hm, h1, h2, a1, a2, hbw, hB⟩ := k
  exact ⟨vh, vq, hm', h1.moved mv a1, h2.moved mv a2, mv.out (fun k hk => (h1.lt k hk).2) a1, mv.out (fun k hk => (h2.lt k hk).2) a2, hbw.trans (mv.below (B := B) (fun k hk => (hm.ge hk).1) hB), Nat.le_trans hB mv.size⟩
theorem KP.req {l : Lock} {code : Int} (k : KP W wr B p C s v1 v2 h q) (e : request s l = (s', code)) (hg : P46.Good s) (hv : Valids s) (hl : s.h.length + s.q.length < 100000) :
    Calls Try.prog 26 #[.pointer (some ⟨p, 0, none⟩), lv l] wr fun e w' => e = .returned (.int .i64 code) ∧ KP W w' B p C s' v1 v2 h q ∧ Moved p wr w' := by
  obtain ⟨vh, vq, hm, -⟩ := id k
  obtain ⟨sh, sq⟩ := s
  refine (lkRequest l B p sh sq vh vq wr hm hl hg hv).mono ?_
  rintro e2 w2 ⟨vh2, vq2, rfl, hm2, hv2⟩
  rw [e] at hm2
  rw [e]
  exact ⟨rfl, k.moved hm2 hv2, hv2⟩
theorem KP.cancel (k : KP W wr B p C s v1 v2 h q) (u : Int) (hv : Valids s) (hl : s.h.length + s.q.length < 100000) :
    Calls Try.prog 27 #[.pointer (some ⟨p, 0, none⟩), .int .i64 u] wr fun e w' => ∃ v, e = .returned v ∧ KP W w' B p C (P46.cancel s u).1 v1 v2 h q := by
  obtain ⟨vh, vq, hm, -⟩ := id k
  obtain ⟨sh, sq⟩ := s
  refine (lkCancel u B p sh sq vh vq wr hm (by simp only at hl; omega) hv).mono ?_
  rintro e2 w2 ⟨v, vh2, vq2, rfl, -, hm2, hv2, -⟩
  exact ⟨v, rfl, k.moved hm2 hv2⟩
end
theorem request_part {s : St} (hv : Valids s) {l : Lock} (hl : l ∈ s.h) : request s l = (s, 0) ∧ request s (partL l) = (s, 0) := by
  have h1 := covered_part hl (hv.1 l hl)
  exact ⟨request_covered (hv.1 l hl) (covered_self hl), request_covered h1.2 h1.1⟩
theorem grantGo_outs : ∀ (rest h pre : List Lock) (out : List Int), (grantGo h pre rest out).2.length ≤ out.length + rest.length
  | [], _, _, out => by simp [grantGo]
  | l :: rest, h, pre, out => by
    rw [grantGo]
    split
    · have := grantGo_outs rest (h ++ [l]) pre (out ++ [l.unit])
      simp only [List.length_append, List.length_cons, List.length_nil] at this ⊢
      omega
    · have := grantGo_outs rest h (pre ++ [l]) out
      simp only [List.length_cons]
      omega
theorem act_outs (s : St) (k : Int) (l : Lock) : (act s k l).2.2.length ≤ s.q.length := by
  have hd : ∀ u, (drop s.q u).length ≤ s.q.length := fun u => List.length_filter_le _ _
  have h1 := grantGo_outs (drop s.q l.unit) s.h [] []
  have h2 := grantGo_outs (drop s.q l.unit) (drop s.h l.unit) [] []
  have := hd l.unit
  simp only [List.length_nil] at h1 h2
  unfold act
  split
  · show (grantGo s.h [] (drop s.q l.unit) []).2.length ≤ _
    omega
  · split
    · show (grantGo (drop s.h l.unit) [] (drop s.q l.unit) []).2.length ≤ _
      omega
    · exact Nat.zero_le _
/-- All that wait are cancelled. -/
def cancels (s : St) (ls : List Lock) : St := ls.foldl (fun s l => (P46.cancel s l.unit).1) s
theorem cancels_take {s : St} {ls : List Lock} {k : Nat} {l : Lock} (h : ls[k]? = some l) : cancels s (ls.take (k + 1)) = (P46.cancel (cancels s (ls.take k)) l.unit).1 := by
  unfold cancels
  rw [take_snoc h, List.foldl_append]
  rfl
theorem cancels_inv : ∀ (ls : List Lock) (s : St), P46.Good s → Valids s → P46.Good (cancels s ls) ∧ Valids (cancels s ls) ∧ (cancels s ls).h.length + (cancels s ls).q.length ≤ s.h.length + s.q.length
  | [], s, hg, hv => ⟨hg, hv, Nat.le_refl _⟩
  | l :: ls, s, hg, hv => by
    obtain ⟨h1, h2, h3⟩ := cancels_inv ls (P46.cancel s l.unit).1 (cancel_good hg _) (cancel_valids hv _)
    have := cancel_len s l.unit
    exact ⟨h1, h2, Nat.le_trans h3 this⟩
theorem cancels_sub : ∀ (ls : List Lock) (s : St), ∀ x ∈ (cancels s ls).q, x ∈ s.q ∧ ∀ y ∈ ls, x.unit ≠ y.unit
  | [], s, x, hx => ⟨hx, by simp⟩
  | l :: ls, s, x, hx => by
    obtain ⟨h1, h2⟩ := cancels_sub ls (P46.cancel s l.unit).1 x hx
    have h3 := cancel_not (s := s) l.unit x h1
    refine ⟨?_, fun y hy => ?_⟩
    · have := (grantGo_sub (drop s.q l.unit) s.h [] []).1 x h1
      exact (List.mem_filter.1 (by simpa using this : x ∈ drop s.q l.unit)).1
    · rcases List.mem_cons.1 hy with rfl | hy
      · exact h3
      · exact h2 y hy
theorem cancels_nil (s : St) : (cancels s s.q).q = [] := by
  refine List.eq_nil_iff_forall_not_mem.2 fun x hx => ?_
  obtain ⟨h1, h2⟩ := cancels_sub s.q s x hx
  exact h2 x h1 rfl
theorem Mgr.other {w w' : World} {C p p2 : Nat} {h2 q2 : List Lock} {vh2 vq2 : Value} (m2 : Mgr w C p2 h2 q2 vh2 vq2) (dis : ∀ k, Foot w p k → ¬ Foot w p2 k) (mv : Moved p w w') :
    Mgr w' C p2 h2 q2 vh2 vq2 ∧ ∀ k, Foot w' p k → ¬ Foot w' p2 k := by
  have hn : ∀ k, Foot w p2 k → ¬ Foot w p k := fun k h1 h2 => dis k h2 h1
  have hm : Mgr w' C p2 h2 q2 vh2 vq2 := ⟨m2.box.moved mv (hn p2 (.inl rfl)), m2.base, m2.held.moved mv (fun k hk => hn k (.inr ⟨vh2, vq2, m2.box, .inl hk⟩)), m2.queue.moved mv (fun k hk => hn k (.inr ⟨vh2, vq2, m2.box, .inr hk⟩)), m2.apart⟩
  refine ⟨hm, fun k h1 h2 => ?_⟩
  have h3 : Foot w p2 k := m2.foot.2 (hm.foot.1 h2)
  rcases mv.foot k h1 with h4 | h4
  · exact dis k h4 h3
  · have := (m2.ge h3).2
    omega
/-- Two managers alike. -/
def K2 (W wr : World) (B C p p2 : Nat) (s : St) : Prop := ∃ vh vq vh2 vq2, Mgr wr B p s.h s.q vh vq ∧ Mgr wr C p2 s.h s.q vh2 vq2 ∧ (∀ k, Foot wr p k → ¬ Foot wr p2 k) ∧ Below B W wr ∧ B ≤ wr.heap.size ∧ B ≤ C
theorem K2.below {W wr w' : World} {B C p p2 : Nat} {s : St} (k : K2 W wr B C p p2 s) (hb : Below wr.heap.size wr w') : K2 W w' B C p p2 s := by
  obtain ⟨vh, vq, vh2, vq2, hm, hm2, dis, hbw, hB, hC⟩ := k
  exact ⟨vh, vq, vh2, vq2, hm.below hb, hm2.below hb, fun k h1 h2 => dis k (hm.foot.2 ((hm.below hb).foot.1 h1)) (hm2.foot.2 ((hm2.below hb).foot.1 h2)), hbw.trans (hb.mono hB), Nat.le_trans hB hb.size, hC⟩
/-- An act on both: alike. -/
theorem K2.first {W wr : World} {B C p p2 : Nat} {s : St} (a : ActL) (k : K2 W wr B C p p2 s) (hg : P46.Good s) (hv : Valids s) (hl : s.h.length + s.q.length < 100000) :
    Calls Try.prog 14 #[.pointer (some ⟨p, 0, none⟩), av a] wr fun e w' => ∃ v vh vq vh2 vq2, e = .returned (.tuple #[.int .i64 (act s a.kind a.l).2.1, v]) ∧ OwnI w' wr.heap.size v (act s a.kind a.l).2.2 ∧
      Mgr w' B p (act s a.kind a.l).1.h (act s a.kind a.l).1.q vh vq ∧ Mgr w' C p2 s.h s.q vh2 vq2 ∧ (∀ k, Foot w' p k → ¬ Foot w' p2 k) ∧ Below B W w' ∧ B ≤ w'.heap.size ∧ B ≤ C ∧ (∀ k, v.ownBlock = some k → ¬ Foot w' p2 k) ∧ Moved p wr w' := by
  obtain ⟨vh, vq, vh2, vq2, hm, hm2, dis, hbw, hB, hC⟩ := k
  obtain ⟨sh, sq⟩ := s
  refine (lkDo a B p sh sq vh vq wr hm hl hg hv).mono ?_
  rintro e w2 ⟨v, vh3, vq3, rfl, ho, hm3, mv, ha⟩
  obtain ⟨o1, o2⟩ := hm2.other dis mv
  exact ⟨v, vh3, vq3, vh2, vq2, rfl, ho, hm3, o1, o2, hbw.trans (mv.below (B := B) (fun k hk => (hm.ge hk).1) hB), Nat.le_trans hB mv.size, hC, fun k hk hf => by
    have h1 := (ho.lt k hk).1
    have h2 := (hm2.ge (hm2.foot.2 (o1.foot.1 hf))).2
    omega, mv⟩
theorem K2.second {W wr : World} {B C p p2 D : Nat} {s s' : St} {vh vq vh2 vq2 v : Value} {outs : List Int} (a : ActL) (hm : Mgr wr B p s'.h s'.q vh vq) (hm2 : Mgr wr C p2 s.h s.q vh2 vq2) (dis : ∀ k, Foot wr p k → ¬ Foot wr p2 k) (hbw : Below B W wr) (hB : B ≤ wr.heap.size) (hC : B ≤ C) (ho : OwnI wr D v outs) (hap : ∀ k, v.ownBlock = some k → ¬ Foot wr p2 k)
    (hg : P46.Good s) (hv : Valids s) (hl : s.h.length + s.q.length < 100000) (he : (act s a.kind a.l).1 = s') :
    Calls Try.prog 14 #[.pointer (some ⟨p2, 0, none⟩), av a] wr fun e w' => ∃ v2, e = .returned (.tuple #[.int .i64 (act s a.kind a.l).2.1, v2]) ∧ OwnI w' wr.heap.size v2 (act s a.kind a.l).2.2 ∧ OwnI w' D v outs ∧ K2 W w' B C p p2 s' := by
  subst he
  obtain ⟨sh, sq⟩ := s
  refine (lkDo a C p2 sh sq vh2 vq2 wr hm2 hl hg hv).mono ?_
  rintro e w2 ⟨v2, vh3, vq3, rfl, ho2, hm3, mv, ha⟩
  obtain ⟨o1, o2⟩ := hm.other (fun k h1 h2 => dis k h2 h1) mv
  refine ⟨v2, rfl, ho2, ho.moved mv hap, vh, vq, vh3, vq3, o1, hm3, fun k h1 h2 => o2 k h2 h1, hbw.trans ((mv.below (B := B) (fun k hk => Nat.le_trans hC (hm2.ge hk).1) hB)), Nat.le_trans hB mv.size, hC⟩
/-- The state after further acts. -/
noncomputable def acts (s : St) (xs : List ActL) : St := xs.foldl (fun s a => (act s a.kind a.l).1) s
theorem acts_take {s : St} {xs : List ActL} {k : Nat} {a : ActL} (h : xs[k]? = some a) : acts s (xs.take (k + 1)) = (act (acts s (xs.take k)) a.kind a.l).1 := by
  unfold acts
  rw [take_snoc h, List.foldl_append]
  rfl
theorem acts_inv : ∀ (xs : List ActL) (s : St), P46.Good s → Valids s → P46.Good (acts s xs) ∧ Valids (acts s xs) ∧ (acts s xs).h.length + (acts s xs).q.length ≤ s.h.length + s.q.length + xs.length
  | [], s, hg, hv => ⟨hg, hv, Nat.le_refl _⟩
  | a :: xs, s, hg, hv => by
    obtain ⟨h1, h2, h3⟩ := acts_inv xs (act s a.kind a.l).1 (act_good hg _ _) (act_valids hv _ _)
    have := act_len s a.kind a.l
    refine ⟨h1, h2, ?_⟩
    show (acts (act s a.kind a.l).1 xs).h.length + (acts (act s a.kind a.l).1 xs).q.length ≤ _
    simp only [List.length_cons]
    omega
set_option maxRecDepth 100000 in
set_option maxHeartbeats 4000000 in
theorem lawAgain (A1 : Option Addr) (n1 c1 : Nat) (xs : List ActL) (A2 : Option Addr) (n2 c2 : Nat) (ys : List ActL) (W : World) (ha1 : ActsAt W A1 n1 xs) (hn1 : n1 ≤ maxLen) (_hu1 : ∀ a ∈ xs, (Lit.int .i64 a.l.unit).wf = true) (ha2 : ActsAt W A2 n2 ys) (hn2 : n2 ≤ maxLen) (_hu2 : ∀ a ∈ ys, (Lit.int .i64 a.l.unit).wf = true) :
    Calls Try.prog 7 #[.slice A1 n1 c1, .slice A2 n2 c2] W fun e w' => e = .returned (.bool true) ∧ Below W.heap.size W w' := by
  unfold maxLen at hn1 hn2
  have HA1 := Lib.hid ha1
  have HA2 := Lib.hid ha2
  clear ha1 ha2
  cases hf1 : fewA xs 40 with
  | false =>
    have HF := Lib.hid hf1
    clear hf1
    go_enter Try.func7, Try.ntmps7
    go_wp2_with (first | (go_at_call 10; refine (lkFew 40 A1 n1 c1 xs W HA1.out hn1).mono ?_; rintro e w2 ⟨rfl, hb2⟩; rw [HF.out]; have HB2 := Lib.hid hb2; clear hb2) | (go_at_call 11; refine (lkAwake _).mono ?_; rintro e w3 ⟨rfl, hb3⟩; have HB3 := Lib.hid hb3; clear hb3))
    go_ret
    exact ⟨rfl, below_then HB2.out HB3.out⟩
  | true =>
  cases hf2 : fewA ys 40 with
  | false =>
    have HF1 := Lib.hid hf1
    have HF := Lib.hid hf2
    clear hf1 hf2
    go_enter Try.func7, Try.ntmps7
    go_wp2_with fail
    refine (lkFew 40 A1 n1 c1 xs W HA1.out hn1).mono ?_
    rintro e w1 ⟨rfl, hb1⟩
    rw [HF1.out]
    have HB1 := Lib.hid hb1
    clear hb1
    go_wp2_with (first | (go_at_call 10; refine (lkFew 40 A2 n2 c2 ys _ (HA2.out.below HB1.out) hn2).mono ?_; rintro e w2 ⟨rfl, hb2⟩; rw [HF.out]; have HB2 := Lib.hid (below_then HB1.out hb2); clear hb2) | (go_at_call 11; refine (lkAwake _).mono ?_; rintro e w3 ⟨rfl, hb3⟩; have HB3 := Lib.hid hb3; clear hb3))
    go_ret
    exact ⟨rfl, below_then HB2.out HB3.out⟩
  | true =>
    have HF1 := Lib.hid hf1
    have HF2 := Lib.hid hf2
    have hl1 := few_len hf1
    have hl2 := few_len hf2
    rw [HA1.out.len] at hl1
    rw [HA2.out.len] at hl2
    have hnp := ptr_nil
    have hlenA : (Try.prog.info? 34).map (·.size) = some 7 := by kernel_rfl
    have hlenL : (Try.prog.info? 32).map (·.size) = some 6 := by kernel_rfl
    clear hf1 hf2
    go_enter Try.func7, Try.ntmps7
    go_wp2_with fail
    refine (lkFew 40 A1 n1 c1 xs W HA1.out hn1).mono ?_
    rintro e w1 ⟨rfl, hb1⟩
    rw [HF1.out]
    have HB1 := Lib.hid hb1
    clear hb1
    go_wp2_with fail
    refine (lkFew 40 A2 n2 c2 ys _ (HA2.out.below HB1.out) hn2).mono ?_
    rintro e w2 ⟨rfl, hb2⟩
    rw [HF2.out]
    have HB2 := Lib.hid (below_then HB1.out hb2)
    clear hb2
    go_wp2_with fail
    refine (lkPlay A1 n1 c1 xs _ (HA1.out.below HB2.out) (by omega)).mono ?_
    rintro e w3 ⟨p, vh3, vq3, rfl, hm3, hb3⟩
    have HM3 := Lib.hid hm3
    have HB3 := Lib.hid hb3
    have HG := Lib.hid (playS_good xs)
    have HV := Lib.hid (playS_valids xs)
    have hl3 : (playS xs).h.length + (playS xs).q.length ≤ 40 := by
      have h1 := playS_len xs
      have h2 := HA1.out.len
      omega
    clear hm3 hb3
    generalize hs0 : playS xs = s at HM3 HG HV hl3
    clear hs0
    go_wp2_with fail
    refine (lkAll w2.heap.size p _ _ vh3 vq3 _ HM3.out (by omega)).mono ?_
    rintro e w4 ⟨v1, v2, rfl, ho1, ho2, -, hb4⟩
    have hk4 : KP w2 w4 w2.heap.size p w3.heap.size s v1 v2 s.h s.q := ⟨vh3, vq3, HM3.out.below hb4, ho1, ho2, fun k hk hf => by
      have h1 := (HM3.out.ge (HM3.out.foot.2 ((HM3.out.below hb4).foot.1 hf))).2
      have h2 := (ho1.lt k hk).1
      omega, fun k hk hf => by
      have h1 := (HM3.out.ge (HM3.out.foot.2 ((HM3.out.below hb4).foot.1 hf))).2
      have h2 := (ho2.lt k hk).1
      omega, HB3.out.trans (hb4.mono HB3.out.size), Nat.le_trans HB3.out.size hb4.size⟩
    obtain ⟨B1, d1, rfl, -, -⟩ := ho1.cells
    obtain ⟨B2, d2, rfl, -, -⟩ := ho2.cells
    obtain ⟨m1, hm1⟩ : ∃ m, s.h.length = m := ⟨_, rfl⟩
    obtain ⟨m2, hm2⟩ : ∃ m, s.q.length = m := ⟨_, rfl⟩
    rw [hm1, hm2] at hk4 hl3 ⊢
    have HM1 := Lib.hid hm1
    have HM2 := Lib.hid hm2
    have HK4 := Lib.hid hk4
    have HZ := Lib.hid HB2.out.size
    clear hb4 ho1 ho2 hk4 hm1 hm2
    go_upto_region 8 with (fail)
    go_loopw [44] (fun i wr => ∃ k : Nat, k ≤ m1 ∧ i = .int .i64 k ∧ KP w2 wr w2.heap.size p w3.heap.size s (.slice B1 m1 d1) (.slice B2 m2 d2) s.h s.q) (fun i _ => m1 - (intOf i).toNat)
    case atStart => exact ⟨0, Nat.zero_le _, rfl, HK4.out⟩
    case round =>
      obtain ⟨k, hk, rfl, hkp⟩ := hrel
      have HK := Lib.hid hkp
      clear hkp
      by_cases hlt : k < m1
      · obtain ⟨vh5, vq5, -, ho1, -⟩ := HK.out
        obtain ⟨b, off, x, rfl, hx, -⟩ := ho1.reads.1.at_ hlt
        have HR := Lib.hid (ho1.reads.1.row hx)
        have HX := Lib.hid (List.mem_of_getElem? hx)
        clear ho1 hx
        go_upto_region 10 with (refine wpList_load_cells rfl 32 (.tmp 46) rfl ⟨b, off + k * 6, none⟩ rfl _ _ HR.out Try.underlying32 rfl hlenL ?_)
        obtain ⟨w5, g5, e1, e2, hb5, h5⟩ := boxes1 wr 32 (la x)
        unfold la at e1
        rw [e1, e2]
        have HK5 := Lib.hid (HK.out.below hb5)
        obtain ⟨a0, a1, a2, a3, a4, a5⟩ := lcells h5
        have HB5 := Lib.hid h5
        clear e1 e2 hb5 h5
        go_upto_region 11 with (fail)
        go_cut [56] (fun _ wx => wx = (w5.alloc (.cells #[.int .i64 x.unit, .int .i64 x.id, .string ⟨x.r.low.toArray⟩, .string ⟨x.r.low.toArray⟩, .bool false, .bool x.x] 32)).drew)
        case first =>
          have hz2 : ∀ o, (w5.alloc o).cell? ⟨g5, 2, none⟩ = some (.string ⟨x.r.low.toArray⟩) := fun o => (Blk.alloc HB5.out o).cell 2
          go_region
          all_goals (go_wp2; go_meet; case rel => first | rfl | trace_state)
        case rest =>
          subst hcut
          go_upto_region 13 with (fail)
          obtain ⟨w6, g6, e1, e2, hb6, h6⟩ := boxes1 w5 32 (la (partL x))
          unfold la partL at e1
          dsimp only at e1
          rw [e1, e2]
          have HK6 := Lib.hid (HK5.out.below (below_then hb6 (below_drewN (Below.refl w6.heap.size w6) 1)))
          have HBD := Lib.hid (below_then hb6 (below_drewN (Below.refl w6.heap.size w6) 1))
          have HX6 := Lib.hid (HB5.out.below (below_then hb6 (below_drewN (Below.refl w6.heap.size w6) 1)))
          have HP6 := Lib.hid (h6.below (below_drewN (Below.refl w6.heap.size w6) 1))
          have HC6 := Lib.hid (show ∀ j u, (la x)[j]? = some u → w6.drew.cell? ((⟨g5, 0, none⟩ : Addr).add j) = some u from HX6.out.add)
          have hg6 : w5.heap.size ≤ g6 := by omega
          have hg5 := HB5.out.lt
          clear e1 e2 hb6 h6 a0 a1 a2 a3 a4 a5
          have HQ := Lib.hid (request_part HV.out HX.out)
          go_wp2_with (refine wpList_load_cells rfl 32 (.tmp 9) rfl ⟨g5, 0, none⟩ rfl _ _ HC6.out Try.underlying32 rfl hlenL ?_)
          refine (HK6.out.req HQ.out.1 HG.out HV.out (by have := HM1.out; have := HM2.out; omega)).mono ?_
          rintro e w7 ⟨rfl, hk7, hv7⟩
          have hnf : ¬ Foot w6.drew p g6 := fun hf => by
            obtain ⟨vh9, vq9, hm9, -⟩ := HK5.out
            have h1 := hm9.foot.2 ((hm9.below HBD.out).foot.1 hf)
            have := (hm9.ge h1).2
            omega
          have HK7 := Lib.hid hk7
          obtain ⟨a0, a1, a2, a3, a4, a5⟩ := lcells (HP6.out.moved hv7 hnf)
          clear hk7 hv7 hnf
          go_wp2_with fail
          refine (HK7.out.req HQ.out.2 HG.out HV.out (by have := HM1.out; have := HM2.out; omega)).mono ?_
          rintro e w8 ⟨rfl, hk8, hv8⟩
          have HK8 := Lib.hid hk8
          clear hk8 hv8 a0 a1 a2 a3 a4 a5
          go_wp2
          go_roundw
          case rel => exact ⟨k + 1, by omega, by go_num, HK8.out⟩
          case measure => simp [intOf]; omega
      · have hkm : k = m1 := by omega
        subst hkm
        go_wp2_with fail
        obtain ⟨vh5, vq5, hm5, -⟩ := id HK.out
        refine (lkAll w2.heap.size p _ _ vh5 vq5 _ hm5 (by have := HM1.out; have := HM2.out; omega)).mono ?_
        rintro e w9 ⟨u1, u2, rfl, ho1, ho2, -, hb9⟩
        have HK9 := Lib.hid (HK.out.below hb9)
        obtain ⟨D1, e1, rfl, hs1, -⟩ := ho1.cells
        obtain ⟨D2, e2, rfl, hs2, -⟩ := ho2.cells
        have HS1 := Lib.hid hs1
        have HS2 := Lib.hid hs2
        clear hm5 ho1 ho2 hb9 hs1 hs2
        go_wp2_with fail
        obtain ⟨vh6, vq6, -, hr1, hr2, -⟩ := id HK9.out
        have HR1 := Lib.hid hr1.reads
        have HR2 := Lib.hid hr2.reads
        clear hr1 hr2
        refine (refLocks _ _ _ _ _ _ s.h s.h _ HS1.out HR1.out.1 (by have := HM1.out; omega)).mono ?_
        rintro e w10 ⟨rfl, hb10⟩
        rw [decide_eq_true (rfl : s.h = s.h)]
        have HK10 := Lib.hid (HK9.out.below hb10)
        have HB10 := Lib.hid hb10
        clear hb10
        go_wp2_with fail
        refine (refLocks _ _ _ _ _ _ s.q s.q _ (HS2.out.below HB10.out) (HR2.out.1.below HB10.out) (by have := HM2.out; omega)).mono ?_
        rintro e w11 ⟨rfl, hb11⟩
        rw [decide_eq_true (rfl : s.q = s.q)]
        have HK11 := Lib.hid (HK10.out.below hb11)
        clear hb11
        go_upto_region 20 with (fail)
        clear HK
        obtain ⟨wo, hwo⟩ : ∃ wo : World, wo = wr := ⟨_, rfl⟩
        clear hwo
        go_loopw [90] (fun i wr => ∃ j : Nat, j ≤ m2 ∧ i = .int .i64 j ∧ KP w2 wr w2.heap.size p w3.heap.size (cancels s (s.q.take j)) (.slice B1 k d1) (.slice B2 m2 d2) s.h s.q) (fun i _ => m2 - (intOf i).toNat)
        case atStart => exact ⟨0, Nat.zero_le _, rfl, HK11.out⟩
        case round =>
          obtain ⟨j, hj, rfl, hkp⟩ := hrel
          have HK := Lib.hid hkp
          clear hkp
          have hcl := (cancels_inv (s.q.take j) s HG.out HV.out).2.2
          by_cases hlt2 : j < m2
          · obtain ⟨vh5, vq5, -, -, ho2, -⟩ := id HK.out
            obtain ⟨b, off, x, rfl, hx, -⟩ := ho2.reads.1.at_ hlt2
            have HR := Lib.hid (ho2.reads.1.row hx)
            have HX := Lib.hid (cancels_take (s := s) hx)
            clear ho2 hx
            go_upto_region 22 with (refine wpList_load_cells rfl 32 (.tmp 92) rfl ⟨b, off + j * 6, none⟩ rfl _ _ HR.out Try.underlying32 rfl hlenL ?_)
            obtain ⟨w5, g5, e1, e2, hb5, h5⟩ := boxes1 wr 32 (la x)
            unfold la at e1
            rw [e1, e2]
            have HK5 := Lib.hid (HK.out.below hb5)
            obtain ⟨a0, -, -, -, -, -⟩ := lcells h5
            clear e1 e2 hb5 h5
            go_wp2_with fail
            refine (HK5.out.cancel x.unit (cancels_inv (s.q.take j) s HG.out HV.out).2.1 (by have := HM1.out; have := HM2.out; omega)).mono ?_
            rintro e w6 ⟨v6, rfl, hk6⟩
            rw [← HX.out] at hk6
            have HK6 := Lib.hid hk6
            clear hk6 a0
            go_wp2
            go_roundw
            case rel => exact ⟨j + 1, by omega, by go_num, HK6.out⟩
            case measure => simp [intOf]; omega
          · have hjm : j = m2 := by omega
            subst hjm
            have hq0 : cancels s (s.q.take j) = ⟨(cancels s s.q).h, []⟩ := by
              rw [List.take_of_length_le (by rw [HM2.out]; exact Nat.le_refl _), ← cancels_nil s]
            obtain ⟨g1, g2, g3⟩ := cancels_inv s.q s HG.out HV.out
            have hq1 : cancels s s.q = ⟨(cancels s s.q).h, []⟩ := by rw [← cancels_nil s]
            rw [hq0] at HK
            rw [hq1] at g1 g2 g3
            have hnl := newL_id g2.1 g1.compat
            generalize (cancels s s.q).h = hh at HK g1 g2 g3 hnl
            have HGG := Lib.hid g1
            have HVV := Lib.hid g2
            have HNL := Lib.hid hnl
            have hh40 : hh.length ≤ 40 := by
              have := HM1.out
              have := HM2.out
              simp only [List.length_nil] at g3
              omega
            clear g1 g2 g3 hnl hq0 hq1 HK4 HK9 HK10 HK11
            go_wp2_with fail
            obtain ⟨vh5, vq5, hm5, -⟩ := id HK.out
            refine (lkAll w2.heap.size p _ _ vh5 vq5 _ hm5 (by simp; omega)).mono ?_
            rintro e w12 ⟨u3, u4, rfl, ho3, ho4, -, hb12⟩
            obtain ⟨D3, e3, rfl, hs3, -⟩ := ho3.cells
            obtain ⟨D4, e4, rfl, -, -⟩ := ho4.cells
            have HS3 := Lib.hid hs3
            have HK12 := Lib.hid (HK.out.below hb12)
            clear hm5 ho3 ho4 hb12 hs3 HK
            go_wp2_with fail
            refine (lkNew D3 _ e3 hh _ HS3.out (by omega)).mono ?_
            rintro e w13 ⟨p2, vh13, rfl, hm13, hb13⟩
            rw [HNL.out] at hm13
            have HK2 := Lib.hid (show K2 w2 w13 w2.heap.size w12.heap.size p p2 ⟨hh, []⟩ from by
              obtain ⟨vh7, vq7, hm7, -, -, -, -, hbw7, hB7⟩ := HK12.out
              refine ⟨vh7, vq7, vh13, _, hm7.below hb13, hm13, fun k h1 h2 => ?_, hbw7.trans (hb13.mono hB7), Nat.le_trans hB7 hb13.size, hB7⟩
              have h3 := (hm7.ge (hm7.foot.2 ((hm7.below hb13).foot.1 h1))).2
              have h4 := (hm13.ge h2).1
              omega)
            clear hm13 hb13
            have hz12 : W.heap.size ≤ w2.heap.size := HZ.out
            go_wp2
            obtain ⟨wo2, hwo2⟩ : ∃ wo : World, wo = wr := ⟨_, rfl⟩
            clear hwo2
            go_loopw [110] (fun i wr => ∃ j2 : Nat, j2 ≤ n2 ∧ i = .int .i64 j2 ∧ K2 w2 wr w2.heap.size w12.heap.size p p2 (acts ⟨hh, []⟩ (ys.take j2))) (fun i _ => n2 - (intOf i).toNat)
            case atStart => exact ⟨0, Nat.zero_le _, rfl, HK2.out⟩
            case round =>
              obtain ⟨j2, hj2, rfl, hkp⟩ := hrel
              have HKK := Lib.hid hkp
              clear hkp
              by_cases hlt3 : j2 < n2
              · have hs := HA2.out.below (HB2.out.trans ((by obtain ⟨_, _, _, _, _, _, _, hbw, _, _⟩ := HKK.out; exact hbw.mono HZ.out)))
                obtain ⟨b, off, a, rfl, hx⟩ := hs.at_ hlt3
                have HR := Lib.hid (hs.row hx)
                have HX := Lib.hid (acts_take (s := ⟨hh, []⟩) hx)
                clear hs hx
                go_upto_region 31 with (refine wpList_load_cells rfl 34 (.tmp 112) rfl ⟨b, off + j2 * 7, none⟩ rfl _ _ HR.out Try.underlying34 rfl hlenA ?_)
                obtain ⟨w14, g14, e1, e2, hb14, h14⟩ := boxes1 wr 34 (aa a)
                unfold aa at e1
                rw [e1, e2]
                have HK14 := Lib.hid (HKK.out.below hb14)
                have HC14 := Lib.hid h14.add
                have HB14 := Lib.hid h14
                have hnf : ¬ Foot w14 p g14 := fun hf => by
                  obtain ⟨vh9, vq9, _, _, hm9, -⟩ := HKK.out
                  have h1 := hm9.foot.2 ((hm9.below hb14).foot.1 hf)
                  have := (hm9.ge h1).2
                  omega
                have HNF := Lib.hid hnf
                obtain ⟨v1, v2, v3⟩ := acts_inv (ys.take j2) ⟨hh, []⟩ HGG.out HVV.out
                have HG14 := Lib.hid v1
                have HV14 := Lib.hid v2
                have hl14 : (acts ⟨hh, []⟩ (ys.take j2)).h.length + (acts ⟨hh, []⟩ (ys.take j2)).q.length < 100000 := by
                  have := List.length_take_le j2 ys
                  simp only [List.length_nil] at v3
                  omega
                clear e1 e2 hb14 h14 hnf v1 v2 v3
                go_wp2_with (refine wpList_load_cells rfl 34 (.tmp 19) rfl ⟨g14, 0, none⟩ rfl _ _ HC14.out Try.underlying34 rfl hlenA ?_)
                refine (HK14.out.first a HG14.out HV14.out hl14).mono ?_
                rintro e w15 ⟨u5, f1, f2, f3, f4, rfl, ho15, hm15, hm215, dis15, hbw15, hB15, hC15, hap15, mv15⟩
                obtain ⟨D5, e5, rfl, -, -⟩ := ho15.cells
                have HC15 := Lib.hid (HB14.out.moved mv15 HNF.out).add
                have HSND := Lib.hid (K2.second a hm15 hm215 dis15 hbw15 hB15 hC15 ho15 hap15 HG14.out HV14.out hl14 rfl)
                clear ho15 hm15 hm215 dis15 hbw15 hB15 hC15 hap15 mv15
                go_wp2_with (refine wpList_load_cells rfl 34 (.tmp 19) rfl ⟨g14, 0, none⟩ rfl _ _ HC15.out Try.underlying34 rfl hlenA ?_)
                refine HSND.out.mono ?_
                rintro e w16 ⟨u6, rfl, ho16, ho15, hk16⟩
                obtain ⟨D6, e6, rfl, hs6, -⟩ := ho16.cells
                have hs5 := ho15.reads
                have HS5 := Lib.hid hs5
                have HS6 := Lib.hid hs6
                rw [← HX.out] at hk16
                have HK16 := Lib.hid hk16
                have hol : (act (acts ⟨hh, []⟩ (ys.take j2)) a.kind a.l).2.2.length ≤ 1000000 := by
                  have := act_outs (acts ⟨hh, []⟩ (ys.take j2)) a.kind a.l
                  omega
                clear ho16 ho15 hk16 hs5 hs6 HSND
                generalize (act (acts ⟨hh, []⟩ (ys.take j2)) a.kind a.l).2 = r at *
                obtain ⟨code, outs⟩ := r
                simp only at hol HS5 HS6
                go_wp2_with fail
                refine (refInts D5 D6 _ _ e5 e6 outs outs w16 HS5.out.1 HS6.out hol).mono ?_
                rintro e w17 ⟨rfl, hb17⟩
                rw [decide_eq_true rfl]
                have HK17 := Lib.hid (HK16.out.below hb17)
                clear HS5 HS6 HK16 hb17
                generalize w17 = w18 at *
                go_wp2
                go_roundw
                case rel => exact ⟨j2 + 1, by omega, by go_num, HK17.out⟩
                case measure => simp [intOf]; omega
              · have hjn : j2 = n2 := by omega
                subst hjn
                go_wp2_with (go_at_call 11; refine (lkAwake _).mono ?_; rintro e w19 ⟨rfl, hb19⟩; have HB19 := Lib.hid hb19; clear hb19)
                go_ret
                obtain ⟨_, _, _, _, _, _, _, hbw, hB, _⟩ := HKK.out
                exact ⟨rfl, (HB2.out.trans (hbw.mono HZ.out)).trans (HB19.out.mono (Nat.le_trans HZ.out hB))⟩
end Go.Proofs.Ytkabfjknpjhonaa
