/- The walk of LockOrder: a new unit's lock. -/
import Derived.Test.YtkabfjknpjhonaaLkLawA
import Derived.Test.YtkabfjknpjhonaaLkApp
import Derived.Test.YtkabfjknpjhonaaKill
import Derived.Test.YtkabfjknpjhonaaReach
namespace Go.Proofs.Ytkabfjknpjhonaa
open Go.RowKit P16 P46
attribute [local go_sem] ByteArray.mk_append_mk ByteArray.extract_mk mk_index

def newU (l : Lock) : Lock := ⟨1073741824, l.id, l.r, l.x⟩
def a0A (l : Lock) : ActL := ⟨0, l⟩
theorem fewCons {a : ActL} {xs : List ActL} {m : Int} (h : fewA (a :: xs) (m + 1) = true) : (xs.length : Int) ≤ m := by
  have := few_len h
  simp at this
  omega
theorem own_nil {h : List Lock} {u : Int} : own h u = [] ↔ ∀ y ∈ h, y.unit ≠ u := by
  unfold own
  rw [List.filter_eq_nil_iff]
  simp
/-- Nothing of the list conflicts. -/
def freeL (x : Lock) (ys : List Lock) : Bool := ys.all fun y => !conflict x y
theorem freeL_take {x : Lock} {ys : List Lock} {k : Nat} {y : Lock} (h : ys[k]? = some y) : freeL x (ys.take (k + 1)) = (freeL x (ys.take k) && !conflict x y) := by
  unfold freeL
  rw [take_snoc h, List.all_append]
  simp
theorem freeL_iff {x : Lock} {ys : List Lock} : freeL x ys = true ↔ ∀ y ∈ ys, conflict x y = false := by
  unfold freeL
  rw [List.all_eq_true]
  simp
theorem lv_newU (l : Lock) : la (newU l) = #[.int .i64 1073741824, .int .i64 l.id, .string ⟨l.r.low.toArray⟩, .string ⟨l.r.high.toArray⟩, .bool l.r.e, .bool l.x] := rfl
theorem CellsAt.one_row {w : World} {g : Nat} {t : TypeId} {cs : Array Value} {s : Nat} {B : Nat} (h : Blk w g t cs) (hs : cs.size = s) (hB : B ≤ g) : RowAt w B t s 1 cs.toList (.slice (some ⟨g, 0, none⟩) 1 1) := by
  refine ⟨by simp [hs], .inr ⟨g, 1, cs, rfl, hB, h, Nat.le_refl _, by unfold maxLen; omega, by omega, ?_⟩⟩
  rw [Nat.one_mul, List.take_of_length_le (by simp [hs])]
theorem Mgr.setFar {wr : World} {B p : Nat} {vh vq : Value} {h q : List Lock} (m : Mgr wr B p h q vh vq) {g : Nat} (hg : ¬ Foot wr p g) (i : Nat) (u : Value) : Mgr (wr.setCell ⟨g, i, none⟩ u) B p h q vh vq := by
  have hn := fun k => (m.foot (k := k)).2
  refine ⟨m.box.far (p := ⟨g, i, none⟩) (fun e => hg (hn _ (.inl e.symm))) u, m.base, m.held.setCell (p := ⟨g, i, none⟩) (fun e => hg (hn _ (.inr (.inl e)))) u, m.queue.setCell (p := ⟨g, i, none⟩) (fun e => hg (hn _ (.inr (.inr e)))) u, m.apart⟩
theorem OwnL.cap2 {w : World} {B : Nat} {e : TypeId} {A : Option Addr} {n c : Nat} {ls : List Lock} (h : OwnL w B e (.slice A n c) ls) : n ≤ c ∧ (A = none → n = 0) ∧ ∀ b off, A = some ⟨b, off, none⟩ → B ≤ b ∧ b < w.heap.size := by
  rcases h.2 with ⟨h1, h0⟩ | ⟨g, cap, cur, h1, hg, hb, h2, _⟩
  · injection h1 with h3 h4 h5
    subst h3
    exact ⟨by omega, fun _ => by omega, fun b off e => by cases e⟩
  · injection h1 with h3 h4 h5
    subst h3
    refine ⟨by omega, (fun e => by cases e), fun b off e => ?_⟩
    injection e with e
    injection e with e1 e2
    subst e1
    exact ⟨hg, (Array.getElem?_eq_some_iff.1 hb).1⟩
theorem sub_less1 {j m : Nat} (h : j < m) : m - (j + 1) < m - j := by omega
theorem below_row {w w2 : World} {o : Obj} {n c : Nat} (hg : (w.alloc o).grownBy w2 (Value.slice (some ⟨w.heap.size, 0, none⟩) n c).ownBlock) : Below w.heap.size w w2 :=
  (below_alloc (Below.refl _ w) o).grown hg (by rw [World.size_alloc]; omega) (fun k hk => by simp [Value.ownBlock] at hk; omega)
set_option maxRecDepth 100000 in
set_option maxHeartbeats 8000000 in
theorem lawOrder (A : Option Addr) (n c : Nat) (xs : List ActL) (l : Lock) (W : World) (ha : ActsAt W A n xs) (hn : n ≤ maxLen) (_hu : ∀ a ∈ xs, (Lit.int .i64 a.l.unit).wf = true) (hz : n * 72 ≤ 140737488351232) (hnn : A = none → n = 0) :
    Calls Try.prog 6 #[.slice A n c, lv l] W fun e w' => e = .returned (.bool true) ∧ Below W.heap.size W w' := by
  unfold maxLen at hn
  have HA := Lib.hid ha
  have HNN := Lib.hid hnn
  have HLA := Lib.hid ha.len
  clear ha hnn
  have hlenL : (Try.prog.info? 32).map (·.size) = some 6 := by kernel_rfl
  have hnp := ptr_nil
  obtain ⟨i0, hi0, hz0, hz1, hz2⟩ := info_parts infoA
  have HI := Lib.hid hi0
  have HZ0 := Lib.hid hz0
  have HZ1 := Lib.hid hz1
  have HZ2 := Lib.hid hz2
  clear hi0 hz0 hz1 hz2
  unfold lv
  go_enter Try.func6, Try.ntmps6
  go_upto_region 1 with (fail)
  obtain ⟨w1, g, e1, e2, hb1, h1⟩ := boxes1 W 32 (la l)
  unfold la at e1
  rw [e1, e2]
  have HB1 := Lib.hid hb1
  have HX1 := Lib.hid h1
  have hc1 := h1.add
  unfold la at hc1
  have HC1 := Lib.hid hc1
  have HA1 := Lib.hid (HA.out.below hb1)
  have hgW : W.heap.size ≤ g := by omega
  clear e1 e2 hb1 h1 hc1
  cases hf : fewA (a0A l :: xs) 51 with
  | false =>
    have HF := Lib.hid hf
    clear hf
    go_wp2_with (first | (refine wpList_load_cells rfl 32 (.tmp 3) rfl ⟨g, 0, none⟩ rfl _ _ HC1.out Try.underlying32 rfl hlenL ?_) | (at_builtin; refine wpList_plain rfl (fun K hK => ?_); refine wp_append_own (.tmp 16) (.tmp 17) _ rfl w1.heap.size 34 i0 _ 7 72 Try.underlying22 HI.out HZ0.out HZ1.out HZ2.out rfl (by omega) _ 1 _ rfl (CellsAt.one_row (Blk.new w1 34 (aa (a0A l))) rfl (Nat.le_refl _)) A n c _ rfl HNN.out (HA1.out.below (below_alloc (Below.refl _ _) _)) (acs_one xs) (by unfold maxLen; omega) (by omega) (by simp) ?_; intro v2 w2 hr2 hg2; have HB2 := Lib.hid (below_row hg2); have HA2 := Lib.hid (HA1.out.below HB2.out); have HX2 := Lib.hid (HX1.out.below HB2.out); obtain ⟨A2, c2, hv2, ha2, hn2⟩ := ActsAt.of_own (xs := a0A l :: xs) hr2; have HAA := Lib.hid ha2; have HNA := Lib.hid hn2; subst hv2; refine hK _ _ ?_; clear hK K hr2 hg2 ha2 hn2) | (go_at_call 10; refine (lkFew 51 A2 (1 + n) c2 (a0A l :: xs) w2 HAA.out HNA.out).mono ?_; rintro e w3 ⟨rfl, hb3⟩; rw [HF.out]; have HB3 := Lib.hid hb3; have HA3 := Lib.hid (HA2.out.below hb3); have HX3 := Lib.hid (HX2.out.below hb3); clear hb3) | (go_at_call 11; refine (lkAwake _).mono ?_; rintro e wW ⟨rfl, hbW⟩; have HBW := Lib.hid hbW; clear hbW))
    go_ret
    exact ⟨rfl, below_then (below_then (below_then HB1.out HB2.out) HB3.out) HBW.out⟩
  | true =>
    have HF := Lib.hid hf
    have hl50 := fewCons (m := 50) hf
    rw [HLA.out] at hl50
    clear hf
    go_upto_region 4 with (first | (refine wpList_load_cells rfl 32 (.tmp 3) rfl ⟨g, 0, none⟩ rfl _ _ HC1.out Try.underlying32 rfl hlenL ?_) | (at_builtin; refine wpList_plain rfl (fun K hK => ?_); refine wp_append_own (.tmp 16) (.tmp 17) _ rfl w1.heap.size 34 i0 _ 7 72 Try.underlying22 HI.out HZ0.out HZ1.out HZ2.out rfl (by omega) _ 1 _ rfl (CellsAt.one_row (Blk.new w1 34 (aa (a0A l))) rfl (Nat.le_refl _)) A n c _ rfl HNN.out (HA1.out.below (below_alloc (Below.refl _ _) _)) (acs_one xs) (by unfold maxLen; omega) (by omega) (by simp) ?_; intro v2 w2 hr2 hg2; have HB2 := Lib.hid (below_row hg2); have HA2 := Lib.hid (HA1.out.below HB2.out); have HX2 := Lib.hid (HX1.out.below HB2.out); obtain ⟨A2, c2, hv2, ha2, hn2⟩ := ActsAt.of_own (xs := a0A l :: xs) hr2; have HAA := Lib.hid ha2; have HNA := Lib.hid hn2; subst hv2; refine hK _ _ ?_; clear hK K hr2 hg2 ha2 hn2) | (go_at_call 10; refine (lkFew 51 A2 (1 + n) c2 (a0A l :: xs) w2 HAA.out HNA.out).mono ?_; rintro e w3 ⟨rfl, hb3⟩; rw [HF.out]; have HB3 := Lib.hid hb3; have HA3 := Lib.hid (HA2.out.below hb3); have HX3 := Lib.hid (HX2.out.below hb3); clear hb3) | (go_at_call 24; refine (lkPlay A n c xs _ (HA3.out) (by omega)).mono ?_; rintro e w4 ⟨p, vh, vq, rfl, hm4, hb4⟩; have HM4 := Lib.hid hm4; have HB4 := Lib.hid hb4; clear hm4 hb4))
    have HBB4 := Lib.hid (below_then (below_then (below_then HB1.out HB2.out) HB3.out) HB4.out)
    have HX4 := Lib.hid (HX3.out.below HB4.out)
    have hg3 : g < w3.heap.size := HX3.out.lt
    have hnf : ¬ Foot w4 p g := fun hf => by
      have := (HM4.out.ge hf).1
      omega
    have HM5 := Lib.hid (HM4.out.setFar hnf 0 (.int .i64 1073741824))
    have HX5 := Lib.hid (show Blk (w4.setCell ⟨g, 0, none⟩ (.int .i64 1073741824)) g tL (la (newU l)) from by simpa [la, newU] using HX4.out.put 0 (.int .i64 1073741824))
    have HB5 := Lib.hid (HBB4.out.setCell (p := ⟨g, 0, none⟩) hgW (.int .i64 1073741824))
    have hx40 := HX4.out.cell 0
    have hf40 := HX4.out.frozen 0
    have hgl4 := HX4.out.lt
    have HGD := Lib.hid (playS_good xs)
    have HVD := Lib.hid (playS_valids xs)
    have hln := playS_len xs
    rw [HLA.out] at hln
    simp [la] at hx40
    have HW3 := Lib.hid (show w3.heap.size ≤ w4.heap.size from HB4.out.size)
    clear hnf hg3
    go_upto_region 7 with (fail)
    generalize w4.setCell ⟨g, 0, none⟩ (.int .i64 1073741824) = w5 at HM5 HX5 HB5 ⊢
    generalize playS xs = s at *
    clear hx40 hf40 hgl4 HX4 HM4
    obtain ⟨X, hX⟩ : ∃ X, newU l = X := ⟨_, rfl⟩
    have HXU := Lib.hid (show X.unit = 1073741824 from by rw [← hX]; rfl)
    rw [hX] at HX5
    clear hX
    go_upto_region 8 with (go_at_call 21; refine (lkAll w3.heap.size p s.h s.q vh vq _ HM5.out (by omega)).mono ?_; rintro e w6 ⟨v1, v2, rfl, ho1, ho2, hap, hb6⟩; have HO1 := Lib.hid ho1; have HO2 := Lib.hid ho2; have HM6 := Lib.hid (HM5.out.below hb6); have HX6 := Lib.hid (HX5.out.below hb6); have HB6 := Lib.hid (below_then HB5.out hb6); have HAP := Lib.hid hap; have HZ6 := Lib.hid hb6.size; clear ho1 ho2 hb6 hap)
    cases hval : validL X with
    | false =>
      have cV : ∀ W, Calls Try.prog 20 #[lv X] W fun e w' => e = .returned (.bool false) ∧ Below W.heap.size W w' := fun W => by
        have := refValid X W
        rw [hval] at this
        exact this
      have CV := Lib.hid cV
      clear cV hval
      go_wp2_with (first | (refine wpList_load_cells rfl 32 (.tmp 3) rfl ⟨g, 0, none⟩ rfl _ _ HX6.out.add Try.underlying32 rfl hlenL ?_) | (go_at_call 20; refine (CV.out _).mono ?_; rintro e w7 ⟨rfl, hb7⟩; have HB7 := Lib.hid hb7; clear hb7) | (go_at_call 11; refine (lkAwake _).mono ?_; rintro e wW ⟨rfl, hbW⟩; have HBW := Lib.hid hbW; clear hbW))
      go_ret
      exact ⟨rfl, below_then (below_then HB6.out HB7.out) HBW.out⟩
    | true =>
      have cV : ∀ W, Calls Try.prog 20 #[lv X] W fun e w' => e = .returned (.bool true) ∧ Below W.heap.size W w' := fun W => by
        have := refValid X W
        rw [hval] at this
        exact this
      have CV := Lib.hid cV
      have HVX := Lib.hid hval
      clear cV hval
      obtain ⟨hx60, -, -, -, -, -⟩ := lcells (l := X) HX6.out
      by_cases hown : own s.h X.unit = []
      · have HOW := Lib.hid hown
        clear hown
        go_upto_region 11 with (first | (refine wpList_load_cells rfl 32 (.tmp 3) rfl ⟨g, 0, none⟩ rfl _ _ HX6.out.add Try.underlying32 rfl hlenL ?_) | (go_at_call 20; refine (CV.out _).mono ?_; rintro e w7 ⟨rfl, hb7⟩; have HB7 := Lib.hid (below_then HB6.out hb7); have hx70 := (lcells (l := X) (HX6.out.below hb7)).1; have HX7 := Lib.hid (HX6.out.below hb7); have HM7 := Lib.hid (HM6.out.below hb7); have HO17 := Lib.hid (HO1.out.below hb7); have HO27 := Lib.hid (HO2.out.below hb7); have HZ7 := Lib.hid hb7.size; clear hb7) | (go_at_call 25; refine (lkHeld X.unit w3.heap.size p s.h s.q vh vq _ HM7.out (by omega)).mono ?_; rintro e w8 ⟨v8, rfl, ho8, hb8⟩; obtain ⟨A8, c8, hv8, -, -⟩ := ho8.cells; rw [HOW.out] at hv8; simp only [List.length_nil] at hv8; subst hv8; have HB8 := Lib.hid (below_then HB7.out hb8); have HX8 := Lib.hid (HX7.out.below hb8); have HM8 := Lib.hid (HM7.out.below hb8); have HO18 := Lib.hid (HO17.out.below hb8); have HO28 := Lib.hid (HO27.out.below hb8); have HZ8 := Lib.hid hb8.size; clear ho8 hb8))
        obtain ⟨A9, c9, hv9, -, -⟩ := HO18.out.cells
        subst hv9
        obtain ⟨A10, c10, hv10, -, -⟩ := HO28.out.cells
        subst hv10
        obtain ⟨hq10, -⟩ := HO28.out.reads
        have HQ10 := Lib.hid hq10
        have HN10 := Lib.hid HO28.out.cap2.2.1
        obtain ⟨i1, hi1, hy0, hy1, hy2⟩ := info_parts infoL
        have HI1 := Lib.hid hi1
        have HY0 := Lib.hid hy0
        have HY1 := Lib.hid hy1
        have HY2 := Lib.hid hy2
        clear hi1 hy0 hy1 hy2 hq10 hx60
        have hz58 : w5.heap.size ≤ w8.heap.size := by
          have h1 := HZ6.out
          have h2 := HZ7.out
          have h3 := HZ8.out
          omega
        have hnf8 : ∀ k, (Value.slice A9 s.h.length c9).ownBlock = some k → ¬ Foot w8 p k := fun k hk hf => by
          have h1 := (HO18.out.lt k hk).1
          have h2 := (HM5.out.ge (HM5.out.foot.2 (HM8.out.foot.1 hf))).2
          omega
        have HNF8 := Lib.hid hnf8
        have hgl5 := HX5.out.lt
        have hxg : some g ≠ (Value.slice A9 s.h.length c9).ownBlock := fun e => by
          have h1 := (HO18.out.lt g e.symm).1
          omega
        have HXG := Lib.hid hxg
        have hq28 : (Value.slice A10 s.q.length c10).ownBlock = none ∨ (Value.slice A10 s.q.length c10).ownBlock ≠ (Value.slice A9 s.h.length c9).ownBlock := by
          rcases HAP.out with h1 | h1
          · rw [h1]
            cases (Value.slice A10 s.q.length c10).ownBlock with
            | none => exact .inl rfl
            | some k => exact .inr (fun e => by cases e)
          · exact .inr (fun e => h1 e.symm)
        have HQ28 := Lib.hid hq28
        clear hnf8 hxg hq28
        go_wp2_with (at_builtin; refine wpList_append_locks rfl (.tmp 44) (.tmp 45) _ rfl w5.heap.size 32 i1 _ 64 Try.underlying44 HI1.out HY0.out HY1.out HY2.out rfl (by omega) _ s.h rfl HO18.out s.q A10 s.q.length c10 rfl HN10.out HQ10.out (by omega) hz58 ?_; intro v9 w9 hown9 hg9 _; have HO9 := Lib.hid hown9; have HM9 := Lib.hid (HM8.out.far hg9 HNF8.out); have HX9 := Lib.hid (HX8.out.grown hg9 HXG.out); have HO29 := Lib.hid (HO28.out.kept hg9 HQ28.out); have HB9 := Lib.hid (HB8.out.grown hg9 (Nat.le_trans HB5.out.size hz58) (fun k hk => Nat.le_trans HB5.out.size (HO18.out.lt k hk).1)); obtain ⟨A11, c11, hv11, -, -⟩ := hown9.cells; subst hv11; clear hown9 hg9)
        obtain ⟨hz9, hl9⟩ := HO9.out.reads
        have HZ9 := Lib.hid hz9
        obtain ⟨zs, hzs⟩ : ∃ zs, s.h ++ s.q = zs := ⟨_, rfl⟩
        have hlz : zs.length = s.h.length + s.q.length := by rw [← hzs, List.length_append]
        rw [hzs] at HO9 HZ9
        rw [hlz] at HZ9
        have HZS := Lib.hid hzs
        have HLZ := Lib.hid hlz
        clear hz9 hl9 hzs hlz hx70
        have hlnn : s.h.length + s.q.length ≤ 50 := by omega
        obtain ⟨m, hm⟩ : ∃ m, s.h.length + s.q.length = m := ⟨_, rfl⟩
        have HMM := Lib.hid hm
        rw [hm] at HZ9 HLZ
        clear hm
        go_loopw [8, 48] (fun fv iv wr => ∃ k : Nat, k ≤ m ∧ iv = .int .i64 k ∧ fv = .bool (freeL X (zs.take k)) ∧ Below w9.heap.size w9 wr) (fun _ iv _ => m - (intOf iv).toNat)
        case atStart => exact ⟨0, Nat.zero_le _, rfl, rfl, Below.refl _ _⟩
        case round =>
          obtain ⟨k, hk, rfl, rfl, hbw⟩ := hrel
          have HB := Lib.hid hbw
          have hszw := hbw.size
          clear hbw
          by_cases hlt : k < m
          · obtain ⟨b, off, y, he, hy, -⟩ := (HZ9.out.below HB.out).at_ hlt
            subst he
            have HR := Lib.hid ((HZ9.out.below HB.out).row hy)
            have HFT := Lib.hid (freeL_take (x := X) hy)
            have hki : (k : Int) < (s.h.length : Int) + (s.q.length : Int) := by have := HMM.out; omega
            clear hy
            go_upto_region 14 with (refine wpList_load_cells rfl 32 (.tmp 50) rfl ⟨b, off + k * 6, none⟩ rfl _ _ HR.out Try.underlying32 rfl hlenL ?_)
            obtain ⟨wa, ga, e1, e2, hba, h1a⟩ := boxes1 wr 32 (la y)
            unfold la at e1
            rw [e1, e2]
            have HBa := Lib.hid (HB.out.trans (hba.mono hszw))
            have HYa := Lib.hid h1a
            have HXa := Lib.hid (HX9.out.below HBa.out)
            obtain ⟨x0, x1, x2, x3, x4, x5⟩ := lcells (l := X) HXa.out
            obtain ⟨y0, y1, y2, y3, y4, y5⟩ := lcells (l := y) HYa.out
            clear e1 e2 hba h1a
            cases hfr : freeL X (zs.take k) with
            | false =>
              have HF2 := Lib.hid (show freeL X (zs.take (k + 1)) = false from by rw [HFT.out, hfr]; rfl)
              clear hfr
              go_wp2
              go_roundw
              case rel => exact ⟨k + 1, by omega, by go_num, by rw [HF2.out], HBa.out⟩
              case measure => simp [intOf]; omega
            | true =>
              have HF2 := Lib.hid (show freeL X (zs.take (k + 1)) = !conflict X y from by rw [HFT.out, hfr]; rfl)
              clear hfr
              go_wp2_with ((go_at_call 17; refine (lkConflict X y _).mono ?_; rintro e wb ⟨rfl, hbb⟩; have HBb := Lib.hid (HBa.out.trans (hbb.mono HBa.out.size)); clear hbb))
              go_roundw
              case rel => exact ⟨k + 1, by omega, by go_num, by rw [HF2.out], HBb.out⟩
              case measure => simp [intOf]; omega
          · have hkm : k = m := by omega
            subst hkm
            have hki : ¬ (k : Int) < (s.h.length : Int) + (s.q.length : Int) := by have := HMM.out; omega
            have HFZ := Lib.hid (show zs.take k = zs from List.take_of_length_le (by rw [HLZ.out]; exact Nat.le_refl _))
            rw [HFZ.out]
            have HMw := Lib.hid (HM9.out.below HB.out)
            have HXw := Lib.hid (HX9.out.below HB.out)
            have HOw := Lib.hid (HO29.out.below HB.out)
            have HBw := Lib.hid (below_then HB9.out HB.out)
            obtain ⟨wo, hwo⟩ : ∃ wo : World, wo = wr := ⟨_, rfl⟩
            rw [← hwo] at HMw HXw HOw HBw ⊢
            clear hwo HB hszw wr
            obtain ⟨hq11, -⟩ := HOw.out.reads
            obtain ⟨m2, hm2⟩ : ∃ m2, s.q.length = m2 := ⟨_, rfl⟩
            have HQ11 := Lib.hid hq11
            have HM2 := Lib.hid hm2
            rw [hm2] at HQ11
            clear hq11
            go_upto_region 16 with (fail)
            go_wp2
            clear hm2 hki
            go_loopw [62] (fun iv wr => ∃ j : Nat, j ≤ m2 ∧ iv = .int .i64 j ∧ Hid (∀ (i : Nat), i < j → ∀ y : Lock, s.q[i]? = some y → y.unit ≠ X.unit) ∧ Below wo.heap.size wo wr) (fun iv _ => m2 - (intOf iv).toNat)
            case atStart => exact ⟨0, Nat.zero_le _, rfl, fun i hi => absurd hi (by omega), Below.refl _ _⟩
            case round =>
              obtain ⟨j, hj, rfl, hall, hbw⟩ := hrel
              have HB := Lib.hid hbw
              have hszw := hbw.size
              clear hbw
              by_cases hlt2 : j < m2
              · obtain ⟨b, off, y, rfl, hy, -⟩ := (HQ11.out.below HB.out).at_ hlt2
                have HR := Lib.hid ((HQ11.out.below HB.out).row hy)
                have HY := Lib.hid hy
                have HLT := Lib.hid hlt2
                have hj50 : j ≤ 50 := by have := HM2.out; omega
                clear hy
                go_upto_region 19 with (refine wpList_load_cells rfl 32 (.tmp 64) rfl ⟨b, off + j * 6, none⟩ rfl _ _ HR.out Try.underlying32 rfl hlenL ?_)
                obtain ⟨wa, ga, e1, e2, hba, h1a⟩ := boxes1 wr 32 (la y)
                unfold la at e1
                rw [e1, e2]
                have HBa := Lib.hid (HB.out.trans (hba.mono hszw))
                obtain ⟨x0, -, -, -, -, -⟩ := lcells (l := X) (HXw.out.below HBa.out)
                obtain ⟨y0, -, -, -, -, -⟩ := lcells (l := y) h1a
                clear e1 e2 hba h1a
                by_cases hyx : y.unit = X.unit
                · have hb : (y.unit == X.unit) = true := by simp [hyx]
                  clear hyx
                  go_wp2_with ((go_at_call 11; refine (lkAwake _).mono ?_; rintro e wW ⟨rfl, hbW⟩; have HBW := Lib.hid hbW; clear hbW))
                  go_ret
                  exact ⟨rfl, below_then (below_then HBw.out HBa.out) HBW.out⟩
                · have hb : (y.unit == X.unit) = false := by simp [hyx]
                  have HYX := Lib.hid hyx
                  clear hyx
                  go_wp2
                  go_roundw
                  case rel =>
                    refine ⟨j + 1, HLT.out, by go_num, ?_, HBa.out⟩
                    intro i hi z hz
                    by_cases hij : i = j
                    · subst hij
                      rw [HY.out] at hz
                      obtain rfl := Option.some.inj hz
                      exact HYX.out
                    · exact hall.out i (by omega) z hz
                  case measure => have h9 := HLT.out; simp [intOf]; omega
              · have hjm : j = m2 := by omega
                subst hjm
                have HHAS := Lib.hid (show ¬ Has s X.unit from by
                  rintro (⟨y, hy, hu⟩ | ⟨y, hy, hu⟩)
                  · exact own_nil.1 HOW.out y hy hu
                  · obtain ⟨i, hi⟩ := List.mem_iff_getElem?.1 hy
                    exact hall.out i (by have := HM2.out; have := (List.getElem?_eq_some_iff.1 hi).1; omega) y hi hu)
                obtain ⟨hcov, hidx, hreq, hblk⟩ := order_free HVX.out HHAS.out
                rw [HZS.out] at hblk
                have HXb := Lib.hid (HXw.out.below HB.out)
                have HMb := Lib.hid (HMw.out.below HB.out)
                have HBb := Lib.hid (below_then HBw.out HB.out)
                have hszW : W.heap.size ≤ w3.heap.size := by
                  have h1 := HB1.out.size
                  have h2 := HB2.out.size
                  have h3 := HB3.out.size
                  omega
                have HSZ := Lib.hid hszW
                have hB3r := Lib.hid (show w3.heap.size ≤ wr.heap.size from by
                  have h1 := HMb.out.base
                  have h2 := HMb.out.box.lt
                  omega)
                have hgd2 := order_busy HVX.out HHAS.out
                cases hfr : freeL X zs with
                | true =>
                  have HRQ := Lib.hid (show request s X = (⟨s.h ++ [X], s.q⟩, 0) from by
                    rw [hreq]
                    unfold P46.ask
                    rw [if_pos (hblk.2 (freeL_iff.1 hfr))])
                  clear hcov hidx hreq hblk hfr hgd2
                  obtain ⟨sh, sq⟩ := s
                  go_wp2_with (first | (refine wpList_load_cells rfl 32 (.tmp 3) rfl ⟨g, 0, none⟩ rfl _ _ HXb.out.add Try.underlying32 rfl hlenL ?_) | (go_at_call 26; refine (lkRequest X w3.heap.size p sh sq vh vq _ HMb.out (by simp only at hln; omega) HGD.out HVD.out).mono ?_; rintro e wc ⟨vhc, vqc, rfl, -, hvc⟩; rw [HRQ.out]; have HBC := Lib.hid (HBb.out.trans ((hvc.below (B := w3.heap.size) (fun k hk => (HMb.out.ge hk).1) hB3r.out).mono HSZ.out)); clear hvc) | (go_at_call 11; refine (lkAwake _).mono ?_; rintro e wW ⟨rfl, hbW⟩; have HBW := Lib.hid hbW; clear hbW))
                  go_ret
                  exact ⟨rfl, below_then HBC.out HBW.out⟩
                | false =>
                  have hne : blks s.h s.q X ≠ [] := fun e => by
                    have := freeL_iff.2 (hblk.1 e)
                    rw [hfr] at this
                    cases this
                  obtain ⟨hr1, hr2⟩ := hgd2 hne
                  have HRQ := Lib.hid hr1
                  have HRQ2 := Lib.hid hr2
                  have HG2 := Lib.hid (show P46.Good ⟨s.h, s.q ++ [X]⟩ from by have := request_good HGD.out X; rw [hr1] at this; exact this)
                  have HV2 := Lib.hid (show Valids ⟨s.h, s.q ++ [X]⟩ from by have := request_valids HVD.out X; rw [hr1] at this; exact this)
                  clear hcov hidx hreq hblk hfr hne hr1 hr2 hgd2
                  obtain ⟨sh, sq⟩ := s
                  have hgf : ¬ Foot wr p g := fun hf => by
                    have h1 := (HMb.out.ge hf).1
                    have h2 := HX3.out.lt
                    omega
                  have HGF := Lib.hid hgf
                  clear hgf
                  go_upto_region 25 with (first | (refine wpList_load_cells rfl 32 (.tmp 3) rfl ⟨g, 0, none⟩ rfl _ _ HXb.out.add Try.underlying32 rfl hlenL ?_) | (go_at_call 26; refine (lkRequest X w3.heap.size p sh sq vh vq _ HMb.out (by simp only at hln; omega) HGD.out HVD.out).mono ?_; rintro e wc ⟨vhc, vqc, rfl, hmc, hvc⟩; rw [HRQ.out] at hmc; rw [HRQ.out]; have HMC := Lib.hid hmc; have HXC := Lib.hid (HXb.out.moved hvc HGF.out); have HBC := Lib.hid (HBb.out.trans ((hvc.below (B := w3.heap.size) (fun k hk => (HMb.out.ge hk).1) hB3r.out).mono HSZ.out)); have HZC := Lib.hid (Nat.le_trans hB3r.out hvc.size); clear hvc hmc))
                  obtain ⟨z0, z1, z2, z3, z4, z5⟩ := lcells (l := X) HXC.out
                  go_wp2_with (first | (go_at_call 26; refine (lkRequest X w3.heap.size p sh (sq ++ [X]) _ _ _ HMC.out (by simp at hln ⊢; omega) HG2.out HV2.out).mono ?_; rintro e wd ⟨vhd, vqd, rfl, -, hvd⟩; rw [HRQ2.out]; have HBD := Lib.hid (HBC.out.trans ((hvd.below (B := w3.heap.size) (fun k hk => (HMC.out.ge hk).1) HZC.out).mono HSZ.out)); clear hvd) | (go_at_call 11; refine (lkAwake _).mono ?_; rintro e wW ⟨rfl, hbW⟩; have HBW := Lib.hid hbW; clear hbW))
                  go_ret
                  exact ⟨rfl, below_then HBD.out HBW.out⟩
      · have hlo : 0 < (own s.h X.unit).length := List.length_pos_iff.2 hown
        have hlq : decide (0 < (own s.h X.unit).length) = true := decide_eq_true hlo
        clear hown
        go_wp2_with (first | (refine wpList_load_cells rfl 32 (.tmp 3) rfl ⟨g, 0, none⟩ rfl _ _ HX6.out.add Try.underlying32 rfl hlenL ?_) | (go_at_call 20; refine (CV.out _).mono ?_; rintro e w7 ⟨rfl, hb7⟩; have HB7 := Lib.hid (below_then HB6.out hb7); have hx70 := (lcells (l := X) (HX6.out.below hb7)).1; have HX7 := Lib.hid (HX6.out.below hb7); have HM7 := Lib.hid (HM6.out.below hb7); have HO17 := Lib.hid (HO1.out.below hb7); have HO27 := Lib.hid (HO2.out.below hb7); have HZ7 := Lib.hid hb7.size; clear hb7) | (go_at_call 25; refine (lkHeld X.unit w3.heap.size p s.h s.q vh vq _ HM7.out (by omega)).mono ?_; rintro e w8 ⟨v8, rfl, ho8, hb8⟩; obtain ⟨A8, c8, hv8, -, -⟩ := ho8.cells;  subst hv8; have HB8 := Lib.hid (below_then HB7.out hb8); have HX8 := Lib.hid (HX7.out.below hb8); have HM8 := Lib.hid (HM7.out.below hb8); have HO18 := Lib.hid (HO17.out.below hb8); have HO28 := Lib.hid (HO27.out.below hb8); have HZ8 := Lib.hid hb8.size; clear ho8 hb8) | (go_at_call 11; refine (lkAwake _).mono ?_; rintro e wW ⟨rfl, hbW⟩; have HBW := Lib.hid hbW; clear hbW))
        go_ret
        exact ⟨rfl, below_then HB8.out HBW.out⟩
end Go.Proofs.Ytkabfjknpjhonaa
