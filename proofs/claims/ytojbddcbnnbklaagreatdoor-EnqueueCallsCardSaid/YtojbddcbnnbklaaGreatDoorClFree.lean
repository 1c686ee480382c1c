/- blocked: the sequence's value and its contract; free: whether it yields nothing. -/
import Derived.Test.YtojbddcbnnbklaaGreatDoorClSeq
namespace Go.Proofs.YtojbddcbnnbklaaGreatDoor
open Go.RowKit P43 Go.Shelf
attribute [local go_sem] Oper.semAt_some ByteArray.mk_append_mk ByteArray.extract_mk mk_index

theorem ClsT.up {B B' : Nat} {w : World} {A : Option Addr} {n : Nat} {ms : List Cm} (c : ClsT B w A n ms) (h : B ≤ B') : ClsT B' w A n ms := ⟨c.at_, c.row, c.ns, fun m hm => Nat.lt_of_lt_of_le (c.lt m hm) h⟩
/-- The sequence that blocked hands back: its captures. -/
abbrev lbOf (p1 p2 p3 : Nat) : Array Value := #[.pointer (some ⟨p1, 0, none⟩), .pointer (some ⟨p2, 0, none⟩), .pointer (some ⟨p3, 0, none⟩)]
/-- In w the sequence of the claims L lies ready. -/
abbrev SeqC (w : World) (lb : Array Value) (L : List Cm) : Prop :=
  ∀ m, 1 ≤ m → SeqStopsK Fence.wide m Tryz.prog 52 lb (fun x : Cm => #[cv x]) (KeepT w.heap.size) (fun ys => ys = L) (fun pre => pre <+: L) L.length w
theorem seqC_of {w : World} {p1 p2 p3 n1 c1 n2 c2 : Nat} {A1 A2 : Option Addr} {c : Cm} {ms1 ms2 : List Cm}
    (h1 : Blk w p1 tSl #[.slice A1 n1 c1]) (h2 : Blk w p2 tSl #[.slice A2 n2 c2]) (h3 : Blk w p3 tC (ca c)) (hc : NsAt w c) (hcB : c.2 < w.heap.size) (hm1 : ClsT w.heap.size w A1 n1 ms1) (hm2 : ClsT w.heap.size w A2 n2 ms2) (hn1 : n1 ≤ 1000000) (hn2 : n2 ≤ 1000000) :
    SeqC w (lbOf p1 p2 p3) (blkC ms1 c ++ blkC ms2 c) := by
  intro m hm l J Jx W hW hJ hJx hY h0
  have hk : KeepT w.heap.size w W := KeepT.of_below hW
  exact clBlocked1 m hm _ l p1 p2 p3 n1 c1 n2 c2 A1 A2 c ms1 ms2 W J Jx hJ hY (hk.blk h1 rfl) (hk.blk h2 rfl) (hk.blk h3 rfl) (hk.ns hc hcB) hcB (hm1.keep hk) (hm2.keep hk) hn1 hn2 h0
theorem keepT_put {B : Nat} {W : World} {l : Nat} {o o' : Obj} (hl : B ≤ l) (h : W.heap[l]? = some o) (hc : o.isCells = false) : KeepT B W (W.putObj l o') := by
  refine ⟨by simp [World.putObj], fun k u hu hk => ?_⟩
  by_cases e : k = l
  · subst e
    obtain rfl : o = u := by rw [h] at hu; exact Option.some.inj hu
    cases o <;> simp_all [keepT, Obj.isCells]
    omega
  · have hg := (grownBy_putObj' W l o').block k (Array.getElem?_eq_some_iff.1 hu).1 (by simpa using e)
    exact hg.trans hu
set_option maxRecDepth 100000 in
set_option maxHeartbeats 2000000 in
theorem clBlocked (c : Cm) (ms1 ms2 : List Cm) (n1 c1 n2 c2 : Nat) (A1 A2 : Option Addr) (w : World) (hc : NsAt w c) (hcB : c.2 < w.heap.size) (hm1 : ClsT w.heap.size w A1 n1 ms1) (hm2 : ClsT w.heap.size w A2 n2 ms2) (hn1 : n1 ≤ 1000000) (hn2 : n2 ≤ 1000000) :
    Calls Tryz.prog 37 #[cv c, .slice A1 n1 c1, .slice A2 n2 c2] w fun e w' => Below w.heap.size w w' ∧ ∃ lb, e = .returned (.func (.func 52) #[] lb) ∧ SeqC w' lb (blkC ms1 c ++ blkC ms2 c) := by
  have HC := Lib.hid hc
  have HM1 := Lib.hid hm1
  have HM2 := Lib.hid hm2
  clear hc hm1 hm2
  unfold cv
  go_enter Tryz.func37, Tryz.ntmps37
  have hb1 := below_alloc (Below.refl _ w) (.cells #[.int .i64 c.1.id, .map (some c.2)] tC)
  have hb2 := below_alloc hb1 (.cells #[.slice A1 n1 c1] tSl)
  have hb3 := below_alloc hb2 (.cells #[.slice A2 n2 c2] tSl)
  have hk := KeepT.of_below (B := w.heap.size) hb3
  have h3 := ((Blk.new w tC (ca c)).alloc (.cells #[.slice A1 n1 c1] tSl)).alloc (.cells #[.slice A2 n2 c2] tSl)
  have h1 := (Blk.new (w.alloc (.cells (ca c) tC)) tSl #[.slice A1 n1 c1]).alloc (.cells #[.slice A2 n2 c2] tSl)
  have h2 := Blk.new ((w.alloc (.cells (ca c) tC)).alloc (.cells #[.slice A1 n1 c1] tSl)) tSl #[.slice A2 n2 c2]
  have hC := hk.ns HC.out hcB
  have hM1 := HM1.out.keep hk
  have hM2 := HM2.out.keep hk
  simp only [World.size_alloc] at h1 h2
  have HS := Lib.hid (seqC_of h1 h2 h3 hC (by simp; omega) (hM1.up (by simp; omega)) (hM2.up (by simp; omega)) hn1 hn2)
  have HB := Lib.hid hb3
  clear hb1 hb2 hb3 hk h1 h2 h3 hC hM1 hM2
  go_wp2
  go_ret
  exact ⟨HB.out, _, rfl, HS.out⟩
set_option maxRecDepth 100000 in
set_option maxHeartbeats 2000000 in
theorem clFree (lb : Array Value) (L : List Cm) (w : World) (hs : SeqC w lb L) :
    Calls Tryz.prog 39 #[.func (.func 52) #[] lb] w fun e w' => e = .returned (.bool (decide (L = []))) ∧ Below w.heap.size w w' := by
  refine (callsIn_wide (n := 3)).1 ?_
  refine callsIn_of_wp_marks Tryz.func39 rfl trivial ?_ rfl
  simp only [Tryz.ntmps39, List.size_toArray, List.length_cons, List.length_nil, Nat.reduceAdd, Nat.reduceSub, Array.replicate_succ, Array.replicate_zero, List.push_toArray, List.append_toArray, List.nil_append, List.cons_append]
  gi_wp2
  have hq := Blk.new w 4 #[.bool false]
  have hB0 := below_alloc (Below.refl _ w) (.cells #[.bool false] 4)
  have hf0 := hq.frozen 0
  have hq0 := hq.cell 0
  simp only [Array.getElem?_eq_getElem, List.size_toArray, List.length_cons, List.length_nil, Nat.zero_add, Nat.lt_add_one, List.getElem_toArray, List.getElem_cons_zero] at hq0
  obtain ⟨w1, hw1⟩ : ∃ w1, w.alloc (.cells #[.bool false] 4) = w1 := ⟨_, rfl⟩
  have hsz : w1.heap.size = w.heap.size + 1 := by rw [← hw1]; simp
  rw [hw1] at hB0 hf0 hq0 ⊢
  clear hw1 hq
  refine wpIn_rangeFunc_ownF rfl (by omega) (gf := 52) (lb := lb) rfl trivial (enters_of Tryz.func52 (by kernel_rfl) rfl)
    (hs (3 - 1) (by omega)) (fun h k => h.trans k) (fun W l o o' hl h hc _ => keepT_put (by omega) h hc) hB0 (fun _ => rfl)
    (fun pre W => (pre = [] ∧ W.cell? ⟨w.heap.size, 0, none⟩ = some (.bool false) ∧ W.frozen? ⟨w.heap.size, 0, none⟩ = false) ∧ Below w.heap.size w W)
    (fun c pre W => (c = .ret ∧ pre ≠ [] ∧ W.cell? ⟨w.heap.size, 0, none⟩ = some (.bool false)) ∧ Below w.heap.size w W)
    (OwnFrom.and (Own.from (fun s A B row hs hg hr => ⟨hs.1, cell_kept hs.2.1 hg hr, (frozen_kept hs.2.1 hg hr).trans hs.2.2⟩) _) (ownFrom_below (Nat.le_refl _) (by omega)))
    (fun c => OwnFrom.and (Own.from (fun s A B row hs hg hr => ⟨hs.1, hs.2.1, cell_kept hs.2.2 hg hr⟩) _) (ownFrom_below (Nat.le_refl _) (by omega)))
    ⟨⟨rfl, hq0, hf0⟩, hB0⟩
    (fun x => { tmps := #[.func (.func 52) #[] lb, undef, .pointer (some ⟨w.heap.size, 0, none⟩), .func (.func 52) #[] lb, cv x], defers := [] }) ?assign ?body ?done ?stop
  case assign =>
    intro l x W K hK
    gi_wp2
    simpa using hK
  case body =>
    rintro l pre x W ⟨⟨hp, hcr, hfr⟩, hB⟩ _
    gi_wp2
    exact ⟨KeepsOthers.setCell _ _ _, ⟨rfl, by simp, World.cell?_setCell_same' _ _ _ (by rw [hcr]; rfl)⟩, hB.setCell (p := ⟨w.heap.size, 0, none⟩) (by simp) _⟩
  case done =>
    rintro D ys W hD rfl ⟨⟨hne, hcr, hfr⟩, hB⟩ hK
    gi_wp2
    have hK' := (KeepsOthers.setCell W ⟨w.heap.size, 0, none⟩ (.bool true)).same D _ hK rfl
    refine ⟨by simp, .inl ⟨_, _, rfl, run_takeDeferred hK', ?_⟩⟩
    have hc5 := cell_kept (World.cell?_setCell_same' W ⟨w.heap.size, 0, none⟩ (.bool true) (by rw [hcr]; rfl)) (grownBy_putObj' _ D (.deferred none)) (fun r e => by cases e; exact ⟨_, hK', rfl⟩)
    refine ⟨.bool true, ?_, by simp [hne], (hB.setCell (p := ⟨w.heap.size, 0, none⟩) (by simp) _).trans (belowK_b (w := w) (Nat.le_refl _) _ D _ _ (by omega) hK' rfl rfl)⟩
    simp [results, Tryz.f39, go_sem, hc5]
  case stop =>
    rintro D c pre W hD hpre ⟨⟨rfl, hin, hcr⟩, hB⟩ hK
    gi_wp2
    refine ⟨by simp, .inl ⟨_, _, rfl, run_takeDeferred hK, ?_⟩⟩
    have hc5 := cell_kept hcr (grownBy_putObj' _ D (.deferred none)) (fun r e => by cases e; exact ⟨_, hK, rfl⟩)
    refine ⟨.bool false, ?_, by rw [decide_eq_false (p := L = []) (fun h => hin (by subst h; exact List.prefix_nil.1 hpre))], hB.trans (belowK_b (w := w) (Nat.le_refl _) W D _ _ (by omega) hK rfl rfl)⟩
    simp [results, Tryz.f39, go_sem, hc5]
end Go.Proofs.YtojbddcbnnbklaaGreatDoor
