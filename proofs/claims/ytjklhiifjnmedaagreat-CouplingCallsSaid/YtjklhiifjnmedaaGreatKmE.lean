/- The reference's Lose and units; a state of the reference at work. The reference's units. The reference's Fail: a system's connection ends, and nothing of it waits any more. -/
import Derived.Test.YtjklhiifjnmedaaGreatKmC
import Derived.Test.YtjklhiifjnmedaaGreatKmB
import Derived.Test.YtjklhiifjnmedaaGreatKmA
import Derived.Test.YtjklhiifjnmedaaGreatLkWaits
import Derived.Test.YtjklhiifjnmedaaGreatCmE
namespace Go.Proofs.YtjklhiifjnmedaaGreat
open Go.RowKit P16 P46
attribute [local go_sem] ByteArray.mk_append_mk ByteArray.extract_mk mk_index

abbrev tR : TypeId := 55
/-- Two slices. -/
def slices (v1 v2 : Value) : Prop := (∃ A n c, v1 = .slice A n c) ∧ ∃ A n c, v2 = .slice A n c
theorem rcs_one {F : P52.Fs} {v1 v2 : Value} (h : slices v1 v2) : (rcs F v1 v2).all (·.oneCell') = true := by
  obtain ⟨⟨A1, n1, c1, rfl⟩, A2, n2, c2, rfl⟩ := h
  simp [rcs, Value.oneCell']
/-- A state in the reference's box p: its rows lie in blocks of X, not at p, nor at the result's box r. -/
structure RB5 (w wx : World) (p r : Nat) (X : Nat → Prop) (F : P52.Fs) (v1 v2 : Value) : Prop where
  box : Blk wx p tR (rcs F v1 v2)
  res : Blk wx r tR (rcs P52.fs0 (.slice none 0 0) (.slice none 0 0))
  pb : w.heap.size ≤ p ∧ w.heap.size ≤ r ∧ p ≠ r
  held : SL wx (fun b => X b ∧ b ≠ p ∧ b ≠ r) v1 F.s.h
  queue : SL wx (fun b => X b ∧ b ≠ p ∧ b ≠ r) v2 F.s.q
  low : Below w.heap.size w wx
/-- What a call of the reference leaves: a state. -/
def SRes (w : World) (X : Nat → Prop) (F : P52.Fs) (R : Value → Ending) (e : Ending) (w' : World) : Prop :=
  ∃ v1 v2, e = R (.agg (rcs F v1 v2)) ∧ SL w' X v1 F.s.h ∧ SL w' X v2 F.s.q ∧ Below w.heap.size w w'
section
variable {w wx w' : World} {p r : Nat} {X : Nat → Prop} {v v1 v2 u va vb : Value} {F G : P52.Fs} {ls : List Lock}
theorem SL.slice (h : SL w X v ls) : ∃ A n c, v = .slice A n c := by
  obtain ⟨A, n, c, rfl, -⟩ := h
  exact ⟨A, n, c, rfl⟩
theorem SL.setRow (h : SL w X v ls) {g : Nat} (hg : ∀ b, X b → b ≠ g) (ds : Array Value) : SL (w.setRow g ds) X v ls := by
  obtain ⟨A, n, c, rfl, h1, h2, h3, h4⟩ := h
  refine ⟨A, n, c, rfl, ⟨h1.1, fun j u hj => ?_⟩, h2, h3, fun b off e => ⟨by simpa using (h4 b off e).1, (h4 b off e).2⟩⟩
  obtain ⟨b, off, e1, e2⟩ := h1.2 j u hj
  refine ⟨b, off, e1, ?_⟩
  have e := setRow_other w g b ds (hg b (h4 b off e1).2)
  unfold World.cell? at e2 ⊢
  rw [e]
  exact e2
theorem RB5.below (k : RB5 w wx p r X F v1 v2) (hb : Below wx.heap.size wx w') : RB5 w w' p r X F v1 v2 :=
  ⟨k.box.below hb, k.res.below hb, k.pb, k.held.below hb, k.queue.below hb, k.low.trans (hb.mono k.low.size)⟩
theorem RB5.slices (k : RB5 w wx p r X F v1 v2) : slices v1 v2 := ⟨k.held.slice, k.queue.slice⟩
theorem RB5.fresh (k : RB5 w wx p r X F v1 v2) (hX : ∀ b, w.heap.size ≤ b → X b) : ∀ b, wx.heap.size ≤ b → X b ∧ b ≠ p ∧ b ≠ r := fun b hb =>
  ⟨hX b (Nat.le_trans k.low.size hb), fun e => by have := k.box.lt; omega, fun e => by have := k.res.lt; omega⟩
/-- The locks are written. -/
theorem RB5.both (k : RB5 w wx p r X F v1 v2) {s : St} (ha : SL wx (fun b => X b ∧ b ≠ p ∧ b ≠ r) va s.h) (hb : SL wx (fun b => X b ∧ b ≠ p ∧ b ≠ r) vb s.q) : RB5 w ((wx.setCell ⟨p, 8, none⟩ va).setCell ⟨p, 9, none⟩ vb) p r X (P52.withS F s) va vb := by
  refine ⟨?_, (k.res.far (p := ⟨p, 8, none⟩) (Ne.symm k.pb.2.2) va).far (p := ⟨p, 9, none⟩) (Ne.symm k.pb.2.2) vb, k.pb, (ha.setCell (p := ⟨p, 8, none⟩) (fun _ h => h.2.1) va).setCell (p := ⟨p, 9, none⟩) (fun _ h => h.2.1) vb, (hb.setCell (p := ⟨p, 8, none⟩) (fun _ h => h.2.1) va).setCell (p := ⟨p, 9, none⟩) (fun _ h => h.2.1) vb, (k.low.setCell k.pb.1 _).setCell k.pb.1 _⟩
  have h := (k.box.put 8 va).put 9 vb
  simpa [rcs, P52.withS] using h
/-- The state with other cells of its own. -/
theorem RB5.cell (k : RB5 w wx p r X F v1 v2) (i : Nat) (u : Value) (hG : (rcs F v1 v2).setIfInBounds i u = rcs G v1 v2) (hs : G.s = F.s) : RB5 w (wx.setCell ⟨p, i, none⟩ u) p r X G v1 v2 :=
  ⟨by rw [← hG]; exact k.box.put i u, k.res.far (p := ⟨p, i, none⟩) (Ne.symm k.pb.2.2) u, k.pb, by rw [hs]; exact k.held.setCell (p := ⟨p, i, none⟩) (fun _ h => h.2.1) u, by rw [hs]; exact k.queue.setCell (p := ⟨p, i, none⟩) (fun _ h => h.2.1) u, k.low.setCell k.pb.1 _⟩
/-- The result is written. -/
theorem RB5.end_ (k : RB5 w wx p r X F v1 v2) : ∃ w9, wx.setRow r (rcs F v1 v2) = w9 ∧ Blk w9 r tR (rcs F v1 v2) ∧ SL w9 X v1 F.s.h ∧ SL w9 X v2 F.s.q ∧ Below w.heap.size w w9 :=
  ⟨_, rfl, k.res.setRow _, (k.held.setRow (fun _ h => h.2.2) _).mono (fun _ _ h => h.1), (k.queue.setRow (fun _ h => h.2.2) _).mono (fun _ _ h => h.1), below_setRow k.low k.pb.2.1 _⟩
/-- A call's boxes. -/
theorem RB5.start (F : P52.Fs) (hh : SL w X v1 F.s.h) (hq : SL w X v2 F.s.q) : ∃ w2 p r, (w.alloc (.cells (rcs F v1 v2) tR)).alloc (.cells (rcs P52.fs0 (.slice none 0 0) (.slice none 0 0)) tR) = w2 ∧ w.heap.size = p ∧ w.heap.size + 1 = r ∧ RB5 w w2 p r X F v1 v2 := by
  obtain ⟨w2, p, r, e1, e2, e3, hb, h1, h2⟩ := boxes2 w tR (rcs F v1 v2) (rcs P52.fs0 (.slice none 0 0) (.slice none 0 0))
  exact ⟨w2, p, r, e1, e2, e3, ⟨h1, h2, ⟨by omega, by omega, by omega⟩, (hh.mono (fun b hb hx => ⟨hx, by omega, by omega⟩)).below hb, (hq.mono (fun b hb hx => ⟨hx, by omega, by omega⟩)).below hb, hb⟩⟩
end
set_option maxRecDepth 100000 in
set_option maxHeartbeats 4000000 in
theorem roLose (F : P52.Fs) (X : Nat → Prop) (v1 v2 : Value) (w : World) (hh : SL w X v1 F.s.h) (hq : SL w X v2 F.s.q) :
    Calls Tryz.prog 27 #[.agg (rcs F v1 v2)] w (SRes w X (P52.lose F) .returned) := by
  have HH := Lib.hid hh
  have HQ := Lib.hid hq
  clear hh hq
  have hlenR : (Tryz.prog.info? tR).map (·.size) = some 12 := by kernel_rfl
  have underR := Tryz.underlying55
  unfold rcs
  go_enter Tryz.func27, Tryz.ntmps27
  go_upto_region 1 with (fail)
  obtain ⟨w2, p, r, e1, e2, e3, hk⟩ := RB5.start F HH.out HQ.out
  unfold rcs P52.fs0 at e1
  rw [e1, e3, e2]
  have HK := Lib.hid hk
  clear e1 e2 e3 hk
  have hfz := fun i => HK.out.box.frozen i
  have hlt := HK.out.box.lt
  obtain ⟨c0, c1, c2, c3, c4, c5, c6, c7, c8, c9, c10, c11⟩ := rcells52 HK.out.box
  go_upto_region 2 with (fail)
  have HK3 := Lib.hid ((HK.out.both (s := ⟨[], []⟩) (va := .slice none 0 0) (vb := .slice none 0 0) ⟨none, 0, 0, rfl, LocksAt.nil, fun _ => rfl, Nat.le_refl _, fun b off e => by cases e⟩ ⟨none, 0, 0, rfl, LocksAt.nil, fun _ => rfl, Nat.le_refl _, fun b off e => by cases e⟩).cell (G := P52.lose F) 10 (.bool true) (by simp [rcs, P52.withS, P52.lose]) rfl)
  clear c0 c1 c2 c3 c4 c5 c6 c7 c8 c9 c10 c11 hfz hlt
  generalize ((w2.setCell ⟨p, 8, none⟩ (.slice none 0 0)).setCell ⟨p, 9, none⟩ (.slice none 0 0)).setCell ⟨p, 10, none⟩ (.bool true) = w3 at HK3 ⊢
  -- END
  go_wp2_with (first | (refine wpList_load_row rfl tR (.tmp 1) rfl p rfl tR _ (0, 0) _ HK3.out.box underR rfl (by kernel_rfl) ?_) | (refine wpList_store_row rfl tR (.tmp 2) (.tmp 6) rfl r _ rfl rfl tR _ HK3.out.res hlenR rfl (rcs_one HK3.out.slices) ?_))
  obtain ⟨w9, e9, h1, h2, h3, h4⟩ := HK3.out.end_; rw [e9]; clear e9
  obtain ⟨c0, c1, c2, c3, c4, c5, c6, c7, c8, c9, c10, c11⟩ := rcells52 h1
  exact bodyPost_ret (v := .agg (rcs (P52.lose F) (.slice none 0 0) (.slice none 0 0))) (by simp [results, Tryz.results27, go_sem, c0, c1, c2, c3, c4, c5, c6, c7, c8, c9, c10, c11, rcs]) rfl ⟨_, _, rfl, h2, h3, h4⟩
end Go.Proofs.YtjklhiifjnmedaaGreat
namespace Go.Proofs.YtjklhiifjnmedaaGreat
open Go.RowKit P16 P46
attribute [local go_sem] ByteArray.mk_append_mk ByteArray.extract_mk mk_index

theorem unitsr_take {ls : List Lock} {j : Nat} {l : Lock} (hl : ls[j]? = some l) : (ls.take (j + 1)).map (fun l : Lock => l.unit) = (ls.take j).map (fun l : Lock => l.unit) ++ [l.unit] := by
  rw [take_snoc hl, List.map_append, List.map_cons, List.map_nil]
set_option maxRecDepth 100000 in
set_option maxHeartbeats 4000000 in
theorem roUnits (A : Option Addr) (n c : Nat) (ls : List Lock) (w : World) (h : LocksAt w A n ls) (hn : n ≤ 100000) :
    Calls Tryz.prog 60 #[.slice A n c] w fun e w' => ∃ v, e = .returned v ∧ OwnI w' w.heap.size v (P52.unitsL ls) ∧ Below w.heap.size w w' := by
  have HH := Lib.hid h
  have HLN := Lib.hid h.len
  obtain ⟨i1, hi0, hz0, hz1, hz2⟩ := info_parts infoI
  have HI1 := Lib.hid hi0
  have HY0 := Lib.hid hz0
  have HY1 := Lib.hid hz1
  have HY2 := Lib.hid hz2
  clear hi0 hz0 hz1 hz2 h
  go_enter Tryz.func60, Tryz.ntmps60
  go_wp2
  go_loopw [3, 4] (fun v i wr => ∃ j : Nat, j ≤ n ∧ i = .int .i64 j ∧ OwnI wr w.heap.size v ((ls.take j).map (fun l : Lock => l.unit)) ∧ Below w.heap.size w wr) (fun _ i _ => n - (intOf i).toNat)
  case atStart => exact ⟨0, Nat.zero_le _, rfl, OwnI.empty _ _ (Nat.le_refl _), below_alloc (Below.refl _ _) _⟩
  case round =>
    obtain ⟨j, hj, rfl, ho, hbw⟩ := hrel
    have HB := Lib.hid hbw
    have HO := Lib.hid ho
    have hz := hbw.size
    obtain ⟨A3, c3, rfl, hs3, -⟩ := ho.cells
    have HS3 := Lib.hid hs3
    clear ho hbw hs3
    by_cases hlt : j < n
    · have hs := HH.out.below HB.out
      obtain ⟨b, off, l, rfl, hl, hcu⟩ := hs.at_ hlt
      have ht := unitsr_take hl
      have HT := Lib.hid ht
      clear ht
      have hul : ((ls.take j).map (fun l : Lock => l.unit)).length ≤ j := by rw [List.length_map]; exact List.length_take_le _ _
      obtain ⟨us, hus⟩ : ∃ us, (ls.take j).map (fun l : Lock => l.unit) = us := ⟨_, rfl⟩
      rw [hus] at HO HT hul HS3 ⊢
      clear hs hl hus
      go_wp2_with (at_builtin; refine wpList_append_int rfl (.tmp 12) (.tmp 18) _ rfl w.heap.size i1 _ Tryz.underlying34 HI1.out HY0.out HY1.out HY2.out rfl _ us rfl (HO.out.alloc _) l.unit wr.heap.size 1 rfl (World.cell?_alloc_mark wr _ 3 (0, 0) 0) (by omega) (by simp; omega) ?_; intro v7 w7 hown7 hg7 hat7; have HO7 := Lib.hid hown7; have HB7 := Lib.hid ((HB.out.alloc hz _).grown hg7 (by rw [World.size_alloc]; omega) (fun z hz => (HO.out.lt z hz).1)); clear hown7 hg7 hat7)
      go_roundw
      case rel => exact ⟨j + 1, by omega, by go_num, by rw [HT.out]; exact HO7.out, HB7.out⟩
      case measure => simp [intOf]; omega
    · have hjn : j = n := by omega
      subst hjn
      have e1 : ls.take j = ls := List.take_of_length_le (by rw [HLN.out]; exact Nat.le_refl _)
      rw [e1] at HO HS3 ⊢
      have hul : (ls.map (fun l : Lock => l.unit)).length ≤ 100000 := by rw [List.length_map, HLN.out]; exact hn
      obtain ⟨us, hus⟩ : ∃ us, ls.map (fun l : Lock => l.unit) = us := ⟨_, rfl⟩
      have HUS := Lib.hid (show setL us = P52.unitsL ls from by rw [← hus]; rfl)
      rw [hus] at HO HS3 hul ⊢
      clear hus e1
      go_wp2_with (go_at_call 94; refine (refSet A3 us.length c3 us wr HS3.out hul).mono ?_; rintro e w9 ⟨v9, rfl, ho9, hb9⟩; rw [HUS.out] at ho9; have HO9 := Lib.hid ho9; have HB9 := Lib.hid (HB.out.trans (hb9.mono hz)); clear ho9 hb9)
      go_ret
      exact ⟨_, rfl, HO9.out.base hz, HB9.out⟩
end Go.Proofs.YtjklhiifjnmedaaGreat
namespace Go.Proofs.YtjklhiifjnmedaaGreat
open Go.RowKit P16 P46
attribute [local go_sem] ByteArray.mk_append_mk ByteArray.extract_mk mk_index

theorem rcn_cell2 {w : World} {g : Nat} {t : TypeId} {F : P52.Fs} {v1 v2 : Value} (h : Blk w g t (rcs F v1 v2)) {k : Int} (h1 : 1 ≤ k) (h4 : k ≤ 4) : w.cell? ⟨g, 4 + (k.toNat - 1), none⟩ = some (.bool (F.cn k.toNat)) := by
  have hk : k = 1 ∨ k = 2 ∨ k = 3 ∨ k = 4 := by omega
  rcases hk with rfl | rfl | rfl | rfl <;> exact h.cell _
theorem off_cells (F : P52.Fs) (v1 v2 : Value) {k : Int} (h1 : 1 ≤ k) (h4 : k ≤ 4) : (rcs F v1 v2).setIfInBounds (4 + (k.toNat - 1)) (.bool false) = rcs (P52.off F k) v1 v2 := by
  have hk : k = 1 ∨ k = 2 ∨ k = 3 ∨ k = 4 := by omega
  rcases hk with rfl | rfl | rfl | rfl
  all_goals simp [rcs, P52.setAt, P52.off]
theorem gone_off {F : P52.Fs} {u k : Int} : P52.gone (P52.off F k) u k = ofB u k := by
  rw [gone_of]
  cases h : ofB u k
  · rfl
  · have hk : P52.sysOf u = k := by
      unfold ofB at h
      simp only [Bool.and_eq_true, decide_eq_true_eq] at h
      exact h.2
    have : P52.pres (P52.off F k) u = false := by
      unfold P52.pres P52.off
      rw [hk]
      dsimp only
      rw [P52.setAt_same]
      simp
    rw [this]
    rfl
theorem failStep_of {F : P52.Fs} {k u : Int} {s : St} : P52.failStep (P52.off F k) k s u = if ofB u k = true then (P46.cancel s u).1 else s := by
  unfold P52.failStep
  rw [gone_off]
theorem fails_len (F : P52.Fs) (k : Int) : ∀ (us : List Int) (s : St), (us.foldl (P52.failStep F k) s).h.length + (us.foldl (P52.failStep F k) s).q.length ≤ s.h.length + s.q.length
  | [], s => Nat.le_refl _
  | u :: us, s => by
    refine Nat.le_trans (fails_len F k us (P52.failStep F k s u)) ?_
    unfold P52.failStep
    split
    · exact P52.cancel_len s u
    · exact Nat.le_refl _
theorem OwnI.setP {w : World} {B : Nat} {v : Value} {xs : List Int} {p : Nat} {t : TypeId} {cs : Array Value} (h : OwnI w B v xs) (hb : Blk w p t cs) (ht : t ≠ 3) (i j : Nat) (va vb : Value) : OwnI ((w.setCell ⟨p, i, none⟩ va).setCell ⟨p, j, none⟩ vb) B v xs := by
  have hne : v.ownBlock ≠ some p := fun e => ownI_ne h hb ht e.symm
  exact (h.setCell (p := ⟨p, i, none⟩) hne va).setCell (p := ⟨p, j, none⟩) hne vb
set_option maxRecDepth 100000 in
set_option maxHeartbeats 8000000 in
theorem roFail (F : P52.Fs) (k : Int) (X : Nat → Prop) (v1 v2 : Value) (w : World) (hh : SL w X v1 F.s.h) (hq : SL w X v2 F.s.q) (hX : ∀ b, w.heap.size ≤ b → X b) (hn : F.s.h.length + F.s.q.length ≤ 90000) (hv : Valids F.s) :
    Calls Tryz.prog 25 #[.agg (rcs F v1 v2), .int .i64 k] w (SRes w X (P52.fail F k) .returned) := by
  have HH := Lib.hid hh
  have HQ := Lib.hid hq
  have HXX := Lib.hid hX
  have HN := Lib.hid hn
  have HV := Lib.hid hv
  clear hh hq hX hn hv
  have hlenR : (Tryz.prog.info? tR).map (·.size) = some 12 := by kernel_rfl
  have hlenS : (Tryz.prog.info? tS).map (·.size) = some 2 := by kernel_rfl
  have underR := Tryz.underlying55
  by_cases h1 : k < 1
  · have HP := Lib.hid (show P52.fail F k = F from by unfold P52.fail; rw [if_neg (by unfold P52.okS; simp; omega)])
    unfold rcs
    go_enter Tryz.func25, Tryz.ntmps25
    go_upto_region 1 with (fail)
    obtain ⟨w2, p, r, e1, e2, e3, hk⟩ := RB5.start F HH.out HQ.out
    unfold rcs P52.fs0 at e1
    rw [e1, e3, e2]
    have HK3 := Lib.hid hk
    clear e1 e2 e3 hk
    go_wp2_with (first | (refine wpList_load_row rfl tR (.tmp 2) rfl p rfl tR _ (0, 0) _ HK3.out.box underR rfl (by kernel_rfl) ?_) | (refine wpList_store_row rfl tR (.tmp 4) (.tmp 13) rfl r _ rfl rfl tR _ HK3.out.res hlenR rfl (rcs_one HK3.out.slices) ?_))
    obtain ⟨w9, e9, h1, h2, h3, h4⟩ := HK3.out.end_; rw [e9]; clear e9
    obtain ⟨c0, c1, c2, c3, c4, c5, c6, c7, c8, c9, c10, c11⟩ := rcells52 h1
    rw [HP.out]
    exact bodyPost_ret (v := .agg (rcs F v1 v2)) (by simp [results, Tryz.results25, go_sem, c0, c1, c2, c3, c4, c5, c6, c7, c8, c9, c10, c11, rcs]) rfl ⟨_, _, rfl, h2, h3, h4⟩
  · by_cases h2 : 4 < k
    · have HP := Lib.hid (show P52.fail F k = F from by unfold P52.fail; rw [if_neg (by unfold P52.okS; simp; omega)])
      unfold rcs
      go_enter Tryz.func25, Tryz.ntmps25
      go_upto_region 1 with (fail)
      obtain ⟨w2, p, r, e1, e2, e3, hk⟩ := RB5.start F HH.out HQ.out
      unfold rcs P52.fs0 at e1
      rw [e1, e3, e2]
      have HK3 := Lib.hid hk
      clear e1 e2 e3 hk
      go_wp2_with (first | (refine wpList_load_row rfl tR (.tmp 2) rfl p rfl tR _ (0, 0) _ HK3.out.box underR rfl (by kernel_rfl) ?_) | (refine wpList_store_row rfl tR (.tmp 4) (.tmp 13) rfl r _ rfl rfl tR _ HK3.out.res hlenR rfl (rcs_one HK3.out.slices) ?_))
      obtain ⟨w9, e9, h1, h2, h3, h4⟩ := HK3.out.end_; rw [e9]; clear e9
      obtain ⟨c0, c1, c2, c3, c4, c5, c6, c7, c8, c9, c10, c11⟩ := rcells52 h1
      rw [HP.out]
      exact bodyPost_ret (v := .agg (rcs F v1 v2)) (by simp [results, Tryz.results25, go_sem, c0, c1, c2, c3, c4, c5, c6, c7, c8, c9, c10, c11, rcs]) rfl ⟨_, _, rfl, h2, h3, h4⟩
    · have HP := Lib.hid (show P52.fail F k = P52.withS (P52.off F k) ((P52.unitsL F.s.q).foldl (P52.failStep (P52.off F k) k) F.s) from by unfold P52.fail; rw [if_pos (by unfold P52.okS; simp; omega)])
      have hk1 : 1 ≤ k := by omega
      have hk4 : k ≤ 4 := by omega
      unfold rcs
      go_enter Tryz.func25, Tryz.ntmps25
      go_upto_region 1 with (fail)
      obtain ⟨w2, p, r, e1, e2, e3, hk⟩ := RB5.start F HH.out HQ.out
      unfold rcs P52.fs0 at e1
      rw [e1, e3, e2]
      have HK := Lib.hid hk
      clear e1 e2 e3 hk
      have hfz := fun i => HK.out.box.frozen i
      have hlt := HK.out.box.lt
      have hc := rcn_cell2 HK.out.box hk1 hk4
      go_upto_region 4 with (fail)
      have HK3 := Lib.hid (HK.out.cell (G := P52.off F k) (4 + (k.toNat - 1)) (.bool false) (off_cells F v1 v2 hk1 hk4) rfl)
      clear hc hfz hlt
      generalize w2.setCell ⟨p, 4 + (k.toNat - 1), none⟩ (.bool false) = w3 at HK3 ⊢
      obtain ⟨A2, n2, c2, rfl, hq1, hq2, hq3, -⟩ := id HK3.out.queue
      have HQ3 := Lib.hid (show LocksAt w3 A2 n2 F.s.q from hq1)
      obtain ⟨-, -, -, -, -, -, -, -, d8, d9, -, -⟩ := rcells52 HK3.out.box
      have hl2 : F.s.q.length = n2 := hq1.len
      clear hq1 hq2 hq3 d8
      go_upto_region 5 with (go_at_call 60; refine (roUnits A2 n2 c2 F.s.q w3 HQ3.out (by have h := HN.out; omega)).mono ?_; rintro e w4 ⟨v4, rfl, ho4, hb4⟩; have HO4 := Lib.hid ho4; have HK4 := Lib.hid (HK3.out.below hb4); have HZ4 := Lib.hid hb4.size; obtain ⟨A4, c4, rfl, -, -⟩ := ho4.cells; clear ho4 hb4)
      obtain ⟨us, hus⟩ : ∃ us, P52.unitsL F.s.q = us := ⟨_, rfl⟩
      obtain ⟨m, hm⟩ : ∃ m, us.length = m := ⟨_, rfl⟩
      have hm9 : m ≤ 90000 := by
        have h1 := units_len F.s.q
        have h2 := HN.out
        rw [hus, hm] at h1
        omega
      have HUN := Lib.hid (show ∀ u ∈ us, InR u from fun u hu => unitsq_num HV.out (by rw [hus]; exact hu))
      rw [hus] at HO4 HP ⊢
      rw [hm] at HO4 ⊢
      have HM := Lib.hid hm
      clear hus hm d9
      go_wp2
      go_loopw [6] (fun i wr => ∃ (j : Nat) (va vb : Value), j ≤ m ∧ i = .int .i64 j ∧ RB5 w wr p r X (P52.withS (P52.off F k) ((us.take j).foldl (P52.failStep (P52.off F k) k) F.s)) va vb ∧ OwnI wr w3.heap.size (.slice A4 m c4) us) (fun i _ => m - (intOf i).toNat)
      case atStart => exact ⟨0, _, _, Nat.zero_le _, rfl, HK4.out, HO4.out⟩
      case round =>
        obtain ⟨j, va, vb, hj, rfl, hk5, ho5⟩ := hrel
        have HK5 := Lib.hid hk5
        have HO5 := Lib.hid ho5
        clear hk5 ho5
        by_cases hlt : j < m
        · obtain ⟨b4, o4, u, rfl, hu, hcu⟩ := HO5.out.reads52.1.at_ hlt
          have HT := Lib.hid (fold_take (P52.failStep (P52.off F k) k) F.s hu)
          have hur := HUN.out u (List.mem_iff_getElem?.2 ⟨j, hu⟩)
          have HLE := Lib.hid (Nat.le_trans (fails_len (P52.off F k) k (us.take j) F.s) HN.out)
          generalize (us.take j).foldl (P52.failStep (P52.off F k) k) F.s = s4 at HK5 HT HLE
          obtain ⟨sh, sq⟩ := s4
          clear hu
          rw [failStep_of] at HT
          cases hof : ofB u k
          · have HOF := Lib.hid (show ∀ W, Calls Tryz.prog 61 #[.int .i64 u, .int .i64 k] W fun e w' => e = .returned (.bool false) ∧ W = w' from fun W => by have h := roOf u k hur W; rwa [hof] at h)
            rw [hof, if_neg (by decide)] at HT
            clear hof
            go_wp2_with (go_at_call 61; refine (HOF.out _).mono ?_; rintro e w5 ⟨rfl, rfl⟩)
            go_roundw
            case rel => exact ⟨j + 1, va, vb, by omega, by go_num, by rw [HT.out]; exact HK5.out, HO5.out⟩
            case measure => simp [intOf]; omega
          · have HOF := Lib.hid (show ∀ W, Calls Tryz.prog 61 #[.int .i64 u, .int .i64 k] W fun e w' => e = .returned (.bool true) ∧ W = w' from fun W => by have h := roOf u k hur W; rwa [hof] at h)
            rw [hof, if_pos rfl] at HT
            clear hof
            go_upto_region 9 with (go_at_call 61; refine (HOF.out _).mono ?_; rintro e w5 ⟨rfl, rfl⟩)
            obtain ⟨-, -, -, -, -, -, -, -, d8, d9, -, -⟩ := rcells52 HK5.out.box
            have HKD := Lib.hid (HK5.out.below (below_drewN (Below.refl wr.heap.size wr) 1))
            -- DRAWN
            go_region_with (go_at_call 22; refine (refCancel u (fun b => X b ∧ b ≠ p ∧ b ≠ r) va vb sh sq _ HKD.out.held HKD.out.queue (HKD.out.fresh HXX.out) HLE.out).mono ?_; rintro e w5 ⟨va5, vb5, vo5, rfl, ha5, hb5, -, hbe5⟩; have HA5 := Lib.hid ha5; have HB5 := Lib.hid hb5; have HK6 := Lib.hid (HKD.out.below hbe5); have HO6 := Lib.hid ((HO5.out.below (below_drewN (Below.refl wr.heap.size wr) 1)).below hbe5); obtain ⟨-, -, -, -, -, -, -, -, d8, d9, -, -⟩ := rcells52 HK6.out.box; have hfz := fun i => HK6.out.box.frozen i; have hlp := HK6.out.box.lt; obtain ⟨Aa, na, ca, hva, -⟩ := id ha5; obtain ⟨Ab, nb, cb, hvb, -⟩ := id hb5; subst hva; subst hvb; clear ha5 hb5 hbe5)
            all_goals
              have HK7 := Lib.hid (HK6.out.both (s := (P46.cancel ⟨sh, sq⟩ u).1) HA5.out HB5.out)
              have HO7 := Lib.hid (HO6.out.setP HK6.out.box (by decide) 8 9 (.slice Aa na ca) (.slice Ab nb cb))
              clear d8 d9 hfz hlp
              generalize (w5.setCell ⟨p, 8, none⟩ (.slice Aa na ca)).setCell ⟨p, 9, none⟩ (.slice Ab nb cb) = w7 at HK7 HO7 ⊢
              go_wp2
              go_roundw
              case rel => exact ⟨j + 1, _, _, by omega, by go_num, by rw [HT.out]; exact HK7.out, HO7.out⟩
              case measure => simp [intOf]; omega
        · have hjm : j = m := by omega
          subst hjm
          have HK6 := Lib.hid (show RB5 w wr p r X (P52.fail F k) va vb from by
            have h := HK5.out
            rw [List.take_of_length_le (by rw [HM.out]; exact Nat.le_refl _)] at h
            rw [HP.out]
            exact h)
          clear HK5
          -- END
          go_wp2_with (first | (refine wpList_load_row rfl tR (.tmp 2) rfl p rfl tR _ (0, 0) _ HK6.out.box underR rfl (by kernel_rfl) ?_) | (refine wpList_store_row rfl tR (.tmp 4) (.tmp 45) rfl r _ rfl rfl tR _ HK6.out.res hlenR rfl (rcs_one HK6.out.slices) ?_))
          obtain ⟨w9, e9, h1, h2, h3, h4⟩ := HK6.out.end_; rw [e9]; clear e9
          obtain ⟨c0, c1, c2, c3, c4, c5, c6, c7, c8, c9, c10, c11⟩ := rcells52 h1
          exact bodyPost_ret (v := .agg (rcs (P52.fail F k) va vb)) (by simp [results, Tryz.results25, go_sem, c0, c1, c2, c3, c4, c5, c6, c7, c8, c9, c10, c11, rcs]) rfl ⟨_, _, rfl, h2, h3, h4⟩
end Go.Proofs.YtjklhiifjnmedaaGreat
