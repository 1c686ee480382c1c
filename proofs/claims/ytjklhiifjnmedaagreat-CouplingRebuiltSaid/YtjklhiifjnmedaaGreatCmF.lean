/- units: the units of locks, in increasing order; the names' Waiting and Owners of an empty table. Fail: a system's connection ends, and nothing of it waits any more. Free: the retained locks of a system are released; the units whose locks are granted by it. -/
import Derived.Test.YtjklhiifjnmedaaGreatCmD
import Derived.Test.YtjklhiifjnmedaaGreatCfPlain
import Derived.Test.YtjklhiifjnmedaaGreatCmA
import Derived.Shelf.SlicesG.Cells
import Derived.Sort.OwnSortedInts
import Derived.Test.YtjklhiifjnmedaaGreatCmE
namespace Go.Proofs.YtjklhiifjnmedaaGreat
open Go.RowKit Go.Maps Go.Sort Go.Shelf P16 P46
attribute [local go_sem] ByteArray.mk_append_mk ByteArray.extract_mk mk_index

abbrev sortI (xs : List Int) : List Int := xs.mergeSort fun x y => decide (x ≤ y)
theorem len_sortI (xs : List Int) : (sortI xs).length = xs.length := List.length_mergeSort xs
theorem cfSort (B : Nat) (v : Value) (xs : List Int) (w : World) (h : OwnI w B v xs) (hl : xs.length ≤ 1000000) :
    Calls Tryz.prog 72 #[v] w fun e w' => e = .returned (.tuple #[]) ∧ OwnI w' B v (sortI xs) ∧ w.grownBy w' v.ownBlock := by
  rcases h.2 with ⟨rfl, h0⟩ | ⟨g, cap, cur, rfl, a2, a3, a4, a5, a6, a7⟩
  · have : xs = [] := by simpa using h0
    subst this
    refine (AnyM.slices_Sort_int_none Tryz.sortI none 0 w).mono ?_
    rintro e w' ⟨rfl, rfl⟩
    exact ⟨rfl, by simpa [sortI] using h, grown_refl _ _⟩
  · have hH := holds_of_blockI (ss := xs) a3 (by simpa using a7)
    refine (AnyM.slices_Sort_int Tryz.sortI g 0 cap xs w hH (Array.getElem?_eq_some_iff.1 a3).1 (by omega)).mono ?_
    rintro e w' ⟨rfl, n, os, rfl⟩
    refine ⟨rfl, ?_, grownBy_sortedI _⟩
    have := ownsRow_sortedI (w := w) (n := n) (os := os) (ss := xs) (ts := sortI xs) (len_sortI xs) a2 a3 a4 a5 a6
    unfold OwnI
    rw [len_sortI]
    exact this
theorem cfCompact (B : Nat) (v : Value) (xs : List Int) (w : World) (h : OwnI w B v xs) (hl : xs.length ≤ 1000000) :
    Calls Tryz.prog 73 #[v] w fun e w' => ∃ v', e = .returned v' ∧ OwnI w' B v' (Lib.compact xs) ∧ w.grownBy w' v.ownBlock ∧ v'.ownBlock = v.ownBlock := by
  rcases h.2 with ⟨rfl, h0⟩ | ⟨g, cap, cur, rfl, a2, a3, a4, a5, a6, a7⟩
  · have : xs = [] := by simpa using h0
    subst this
    refine (AnyG.slices_Compact_int_empty Tryz.compI none 0 w).mono ?_
    rintro e w' ⟨rfl, rfl⟩
    exact ⟨_, rfl, OwnI.nil _ _, grown_refl _ _, rfl⟩
  · have hx : Blk w g 3 cur := a3
    have hcell : ∀ j, j < xs.length → w.cell? ⟨g, 0 + j, none⟩ = some (.int .i64 (xs.getD j 0)) := by
      intro j hj
      rw [Nat.zero_add, hx.cell]
      have h1 := congrArg (fun l => l[j]?) a7
      rw [List.getElem?_take_of_lt (by omega)] at h1
      rw [← Array.getElem?_toList, h1]
      simp [List.getD, List.getElem?_eq_getElem hj]
    refine (AnyG.slices_Compact_int_cells Tryz.compI g 0 xs.length cap xs w (Nat.le_refl _) (by omega) a4 hcell (fun j _ => hx.frozen _)).mono ?_
    rintro e w' ⟨rfl, q, rfl⟩
    rw [List.take_length]
    have hle := Lib.compact_length_le xs
    refine ⟨_, rfl, ?_, (show w.grownBy ((w.drewN q).setCells g 0 _) (some g) from by
      have hg := grownBy_setCells (g := g) (w.drewN q) 0 ((Lib.compact xs ++ List.replicate (xs.length - (Lib.compact xs).length) 0).map (Value.int .i64))
      exact ⟨hg.os, hg.tape, hg.output, hg.size, hg.block⟩), rfl⟩
    have hsz : cur.size = cap := by omega
    have hlen : ((Lib.compact xs ++ List.replicate (xs.length - (Lib.compact xs).length) 0).map (Value.int .i64)).length = xs.length := by simp; omega
    refine ⟨by simp, .inr ⟨g, cap, _, rfl, a2, Blk.setCells (hx.drewN q) (by rw [hlen]; omega), by omega, a5, ?_, ?_⟩⟩
    · rw [over_size (by rw [hlen]; omega)]
      exact a6
    · unfold over
      simp only [List.take_zero, List.nil_append, List.map_append, List.append_assoc]
      rw [Nat.mul_one]
      exact List.take_left' (by simp)
theorem units_take {ls : List Lock} {k : Nat} {l : Lock} (h : ls[k]? = some l) : (ls.take (k + 1)).map (·.unit) = (ls.take k).map (·.unit) ++ [l.unit] := by
  rw [take_snoc h, List.map_append]
  rfl
set_option maxRecDepth 100000 in
set_option maxHeartbeats 2000000 in
theorem cfUnits (A : Option Addr) (n c : Nat) (ls : List Lock) (w : World) (ha : LocksAt w A n ls) (hn : n ≤ 100000) :
    Calls Tryz.prog 42 #[.slice A n c] w fun e w' => ∃ v, e = .returned v ∧ OwnI w' w.heap.size v (P52.unitsL ls) ∧ Below w.heap.size w w' := by
  have HA := Lib.hid ha
  clear ha
  obtain ⟨i1, hi1, hy0, hy1, hy2⟩ := info_parts infoI
  have HI1 := Lib.hid hi1
  have HY0 := Lib.hid hy0
  have HY1 := Lib.hid hy1
  have HY2 := Lib.hid hy2
  clear hi1 hy0 hy1 hy2
  have hlenL : (Tryz.prog.info? 30).map (·.size) = some 6 := by kernel_rfl
  go_enter Tryz.func42, Tryz.ntmps42
  go_wp2
  go_loopw [3, 8] (fun v i wr => ∃ k : Nat, k ≤ n ∧ i = .int .i64 k ∧ OwnI wr w.heap.size v ((ls.take k).map (·.unit)) ∧ Below w.heap.size w wr) (fun _ i _ => n - (intOf i).toNat)
  case atStart => exact ⟨0, Nat.zero_le _, rfl, OwnI.nil _ _, Below.refl _ _⟩
  case round =>
    obtain ⟨k, hk, rfl, ho, hbw⟩ := hrel
    have HO := Lib.hid ho
    have HB := Lib.hid hbw
    have hsz := hbw.size
    clear ho hbw
    by_cases hlt : k < n
    · have hs := HA.out.below HB.out
      obtain ⟨b, off, l, rfl, hx, -⟩ := hs.at_ hlt
      have HR := Lib.hid (hs.row hx)
      have HX := Lib.hid (units_take hx)
      have hul : ((ls.take k).map (·.unit)).length ≤ k := by
        rw [List.length_map]
        exact List.length_take_le _ _
      generalize (ls.take k).map (·.unit) = us at HO HX hul
      clear hs hx
      go_upto_region 5 with (refine wpList_load_cells rfl 30 (.tmp 10) rfl ⟨b, off + k * 6, none⟩ rfl _ _ HR.out Tryz.underlying30 rfl hlenL ?_)
      obtain ⟨w4, g4, e1, e2, hb4, h4⟩ := boxes1 wr 30 (la l)
      unfold la at e1
      rw [e1, e2]
      have HB4 := Lib.hid (HB.out.trans (hb4.mono hsz))
      have HO4 := Lib.hid (HO.out.below hb4)
      obtain ⟨a0, -, -, -, -, -⟩ := lcells h4
      have hz4 := HB4.out.size
      clear e1 e2 hb4 h4
      obtain ⟨A3, c3, rfl, -, -⟩ := HO4.out.cells
      go_wp2_with (at_builtin; refine wpList_append_int rfl (.tmp 12) (.tmp 15) _ rfl w.heap.size i1 _ Tryz.underlying34 HI1.out HY0.out HY1.out HY2.out rfl _ us rfl (HO4.out.alloc _) l.unit w4.heap.size 1 rfl (World.cell?_alloc_mark w4 _ 3 (0, 0) 0) (by omega) (by simp; omega) ?_; intro v11 w11 hown11 hg11 hat11; have HO11 := Lib.hid hown11; have HB11 := Lib.hid ((HB4.out.alloc hz4 _).grown hg11 (by rw [World.size_alloc]; omega) (fun k hk => (HO4.out.lt k hk).1)); clear hown11 hg11 hat11)
      go_roundw
      case rel => exact ⟨k + 1, by omega, by go_num, by rw [HX.out]; exact HO11.out, HB11.out⟩
      case measure => simp [intOf]; omega
    · have hkn : k = n := by omega
      subst hkn
      have ho := HO.out
      rw [List.take_of_length_le (by rw [HA.out.len]; exact Nat.le_refl _)] at ho
      have hul : (ls.map (·.unit)).length ≤ 100000 := by
        rw [List.length_map, HA.out.len]
        omega
      have hul2 : (sortI (ls.map (·.unit))).length ≤ 100000 := by rw [len_sortI]; exact hul
      have HO9 := Lib.hid ho
      have HU := Lib.hid (show Lib.compact (sortI (ls.map (·.unit))) = P52.unitsL ls from P52.sorted_compact _)
      clear ho HO
      go_wp2_with (first | (go_at_call 72; refine (cfSort w.heap.size _ _ wr HO9.out (by omega)).mono ?_; rintro e w5 ⟨rfl, ho5, hg5⟩; have HO5 := Lib.hid ho5; have HB5 := Lib.hid (HB.out.grown hg5 hsz (fun x hx => (HO9.out.lt x hx).1)); clear ho5 hg5) | (go_at_call 73; refine (cfCompact w.heap.size _ _ w5 HO5.out (by omega)).mono ?_; rintro e w6 ⟨v6, rfl, ho6, hg6, -⟩; have HO6 := Lib.hid ho6; have HB6 := Lib.hid (HB5.out.grown hg6 HB5.out.size (fun x hx => (HO5.out.lt x hx).1)); clear ho6 hg6))
      go_ret
      refine ⟨v6, rfl, ?_, HB6.out⟩
      rw [← HU.out]
      exact HO6.out
set_option maxRecDepth 100000 in
theorem enqWaiting (nb : Nat) (w : World) (h : Blk w nb tT #[.slice none 0 0, .slice none 0 0]) : Calls Tryz.prog 45 #[.pointer (some ⟨nb, 0, none⟩)] w fun e w' => e = .returned (.slice none 0 0) ∧ w = w' := by
  have hc := h.cell 1
  simp at hc
  go_enter Tryz.func45, Tryz.ntmps45
  go_wp2
  go_loopw [3, 11] (fun v i wr => v = .slice none 0 0 ∧ i = .int .i64 0 ∧ w = wr) (fun _ _ _ => 0)
  case atStart => exact ⟨rfl, rfl, rfl⟩
  case round =>
    obtain ⟨rfl, rfl, rfl⟩ := hrel
    go_wp2
    go_ret
    exact ⟨rfl, rfl⟩
set_option maxRecDepth 100000 in
theorem enqOwners (nb : Nat) (w : World) (h : Blk w nb tT #[.slice none 0 0, .slice none 0 0]) : Calls Tryz.prog 48 #[.pointer (some ⟨nb, 0, none⟩)] w fun e w' => e = .returned (.slice none 0 0) ∧ Below w.heap.size w w' := by
  have hc := h.cell 0
  simp at hc
  have HH := Lib.hid h
  clear h
  go_enter Tryz.func48, Tryz.ntmps48
  go_wp2_with (go_at_call 45; refine (enqWaiting nb w HH.out).mono ?_; rintro e w2 ⟨rfl, rfl⟩)
  go_loopw [3, 13] (fun v i wr => v = .slice none 0 0 ∧ i = .int .i64 0 ∧ w = wr) (fun _ _ _ => 0)
  case atStart => exact ⟨rfl, rfl, rfl⟩
  case round =>
    obtain ⟨rfl, rfl, rfl⟩ := hrel
    go_wp2_with (go_at_call 72; refine (cfSort w.heap.size _ [] w (OwnI.nil _ _) (by simp)).mono ?_; rintro e w' ⟨rfl, -, hg⟩)
    go_ret
    exact ⟨rfl, (Below.refl _ _).grown hg (Nat.le_refl _) (fun k hk => by simp [Value.ownBlock] at hk)⟩
end Go.Proofs.YtjklhiifjnmedaaGreat
namespace Go.Proofs.YtjklhiifjnmedaaGreat
open Go.RowKit Go.Maps P16 P46
attribute [local go_sem] ByteArray.mk_append_mk ByteArray.extract_mk mk_index

theorem fold_take {α β : Type} (f : β → α → β) (b : β) {l : List α} {k : Nat} {x : α} (h : l[k]? = some x) : (l.take (k + 1)).foldl f b = f ((l.take k).foldl f b) x := by
  rw [take_snoc h, List.foldl_append]
  rfl
theorem offed {w : World} {b p nb : Nat} {F : P52.Fs} (h : Blk w b tF (fcs F p nb)) {k : Int} (hk : 1 ≤ k ∧ k ≤ 4) : Blk (w.setCell ⟨b, 5 + k.toNat, none⟩ (.bool false)) b tF (fcs (P52.off F k) p nb) := by
  have h1 := h.put (5 + k.toNat) (.bool false)
  have hk' : k = 1 ∨ k = 2 ∨ k = 3 ∨ k = 4 := by omega
  rcases hk' with rfl | rfl | rfl | rfl
  all_goals simpa [fcs, P52.setAt, P52.off] using h1
theorem unitsq_num {s : St} (hv : Valids s) {u : Int} (h : u ∈ P52.unitsL s.q) : InR u := by
  unfold P52.unitsL at h
  rw [(setL_spec _).2, List.mem_map] at h
  obtain ⟨l, hl, rfl⟩ := h
  exact InR.num (valid_num (hv.2 l hl))
theorem units_len (ls : List Lock) : (P52.unitsL ls).length ≤ ls.length := by
  obtain ⟨h1, h2⟩ := setL_spec (ls.map fun l : Lock => l.unit)
  have hn : (setL (ls.map fun l : Lock => l.unit)).Nodup := List.Pairwise.imp (S := fun a b : Int => a ≠ b) (fun {a b} (h : a < b) => by omega) h1
  have h := nodup_len _ (ls.map fun l : Lock => l.unit) hn (fun v hv => (h2 v).1 hv)
  rw [List.length_map] at h
  exact h
set_option maxRecDepth 100000 in
set_option maxHeartbeats 4000000 in
theorem cfFail (k : Int) (B b : Nat) (F : P52.Fs) (S : Nat → Prop) (w : World) (n : Nat) (hf : Fac w B b F S) (ok : P52.Ok F n) (hn : n < 90000) :
    Calls Tryz.prog 11 #[.pointer (some ⟨b, 0, none⟩), .int .i64 k] w (NPost w B b S (P52.fail F k)) := by
  have HE := Lib.hid (cfExists k w)
  have HFA := Lib.hid hf
  by_cases hok : P52.okS k = true
  · have hk := okS_iff.1 hok
    obtain ⟨p, nb, vh, vq, h, hs⟩ := hf
    have HF := Lib.hid h
    have HS := Lib.hid hs
    have HOK := Lib.hid hok
    have HSND := Lib.hid (ok.snd)
    have HP := Lib.hid (show P52.fail F k = P52.withS (P52.off F k) ((P52.unitsL F.s.q).foldl (P52.failStep (P52.off F k) k) F.s) from by unfold P52.fail; rw [if_pos hok])
    have hc := cn_cell h.box (by omega) hk.2
    have hfz := fun i => h.box.frozen i
    have hlt := h.box.lt
    clear h hs hok ok
    go_enter Tryz.func11, Tryz.ntmps11
    go_upto_region 2 with (go_at_call 40; refine HE.out.mono ?_; rintro x w2 ⟨rfl, rfl⟩; rw [HOK.out])
    have hg1 := grownBy_setCell w b (5 + k.toNat) (.bool false)
    have HF1 := Lib.hid (HF.out.grown hg1 (offed HF.out.box hk) rfl)
    have HC1 := Lib.hid ((HF.out.chg_box hg1).congr HS.out (fun _ => Iff.rfl))
    clear hg1 hc hfz hlt
    generalize w.setCell _ _ = w1 at HF1 HC1 ⊢
    have hc10 := HF1.out.box.cell 10
    simp [fcs] at hc10
    go_wp2_with (first | (go_at_call 41; refine (lkAll B p _ _ vh vq w1 HF1.out.mgr (by have h := HSND.out.len; show F.s.h.length + F.s.q.length ≤ 1000000; omega)).mono ?_; rintro e w2 ⟨v1, v2, rfl, -, ho2, -, hb2⟩; obtain ⟨A2, c2, rfl, hs2, -⟩ := ho2.cells; have HS2 := Lib.hid (show LocksAt w2 A2 F.s.q.length F.s.q from hs2); have HF2 := Lib.hid (HF1.out.below hb2); have HC2 := Lib.hid (HC1.out.trans ((Chg.of_below (S := FSet w1 b p nb) hb2).congr (fun _ => Iff.rfl) (fun x => HF1.out.foot_below hb2 x))); clear ho2 hs2 hb2 hc10) | (go_at_call 42; refine (cfUnits A2 _ c2 F.s.q w2 HS2.out (by have h := HSND.out.len; show F.s.q.length ≤ 100000; omega)).mono ?_; rintro e w3 ⟨v3, rfl, ho3, hb3⟩; have HO3 := Lib.hid ho3; have HF3 := Lib.hid (HF2.out.below hb3); have HC3 := Lib.hid (HC2.out.trans ((Chg.of_below (S := FSet w2 b p nb) hb3).congr (fun _ => Iff.rfl) (fun x => HF2.out.foot_below hb3 x))); have HZ3 := Lib.hid (show ∀ x, FSet w3 b p nb x → x < w2.heap.size from fun x hx => (HF2.out.ge ((HF2.out.foot_below hb3 x).1 hx)).2); obtain ⟨A3, c3, rfl, hs3, -⟩ := ho3.cells; have HI3 := Lib.hid hs3; clear ho3 hb3 hs3))
    obtain ⟨us, hus⟩ : ∃ us, P52.unitsL F.s.q = us := ⟨_, rfl⟩
    obtain ⟨m, hm⟩ : ∃ m, us.length = m := ⟨_, rfl⟩
    have HUN := Lib.hid (show ∀ u ∈ us, InR u from fun u hu => unitsq_num HSND.out.valids (by rw [hus]; exact hu))
    have hm9 : m ≤ 90000 := by
      have h1 := units_len F.s.q
      have h2 := HSND.out.len
      rw [hus, hm] at h1
      omega
    rw [hus] at HO3 HI3 HP ⊢
    rw [hm] at HO3 HI3 ⊢
    have HM := Lib.hid hm
    have HNF := Lib.hid (show ∀ x, (Value.slice A3 m c3).ownBlock = some x → ¬ FSet w3 b p nb x from fun x hx hfs => by have h1 := (HO3.out.lt x hx).1; have h2 := HZ3.out x hfs; omega)
    have HNA := Lib.hid (show ∀ bb off, A3 = some ⟨bb, off, none⟩ → ¬ FSet w3 b p nb bb from fun bb off e => HNF.out bb (by rw [e]; rfl))
    clear hus hm
    go_loopw [29] (fun i wr => ∃ (j : Nat) (vh vq : Value), j ≤ m ∧ i = .int .i64 j ∧ FacP wr B b p nb (P52.withS (P52.off F k) ((us.take j).foldl (P52.failStep (P52.off F k) k) F.s)) vh vq ∧ Chg (FSet w3 b p nb) (FSet wr b p nb) w3 wr) (fun i _ => m - (intOf i).toNat)
    case atStart => exact ⟨0, vh, vq, Nat.zero_le _, rfl, HF3.out, Chg.refl _ _⟩
    case round =>
      obtain ⟨j, vh4, vq4, hj, rfl, hf4, hc4⟩ := hrel
      have HF4 := Lib.hid hf4
      have HC4 := Lib.hid hc4
      clear hf4 hc4
      by_cases hlt : j < m
      · have hi4 := CellsAt.chg HI3.out HC4.out HNA.out
        obtain ⟨b4, o4, u, rfl, hu, hcu⟩ := IntsAt.at_ hi4 hlt
        have HT := Lib.hid (fold_take (P52.failStep (P52.off F k) k) F.s hu)
        have hur := HUN.out u (List.mem_iff_getElem?.2 ⟨j, hu⟩)
        have HS4 := Lib.hid (P52.Snd.fails (P52.off F k) k (us.take j) HSND.out)
        generalize (us.take j).foldl (P52.failStep (P52.off F k) k) F.s = s4 at HF4 HT HS4
        clear hi4 hu
        cases hg : P52.gone (P52.off F k) u k with
        | true =>
          have HG := Lib.hid (show ∀ W, Blk W b tF (fcs (P52.withS (P52.off F k) s4) p nb) → Calls Tryz.prog 43 #[.pointer (some ⟨b, 0, none⟩), .int .i64 u, .int .i64 k] W fun e w' => e = .returned (.bool true) ∧ Below W.heap.size W w' from fun W hW => by
            have h := cfGone u k hur b p nb _ W hW
            rwa [show P52.gone (P52.withS (P52.off F k) s4) u k = true from hg] at h)
          have HST := Lib.hid (show P52.failStep (P52.off F k) k s4 u = (P46.cancel s4 u).1 from by unfold P52.failStep; rw [if_pos hg])
          clear hg hur
          go_wp2_with (first | (go_at_call 43; refine (HG.out _ HF4.out.box).mono ?_; rintro e w5 ⟨rfl, hb5⟩; have HF5 := Lib.hid (HF4.out.below hb5); have HC5 := Lib.hid (HC4.out.trans ((Chg.of_below (S := FSet wr b p nb) hb5).congr (fun _ => Iff.rfl) (fun x => HF4.out.foot_below hb5 x))); have hc5 := HF5.out.box.cell 10; simp [fcs] at hc5; clear hb5 hcu) | (go_at_call 44; refine (lkCancel u B p s4.h s4.q vh4 vq4 w5 HF5.out.mgr (by have h := HS4.out.len; omega) HS4.out.valids).mono ?_; rintro e w6 ⟨v6, vh6, vq6, rfl, -, hm6, hv6, -⟩; have HF6 := Lib.hid (HF5.out.moved (s := (P46.cancel s4 u).1) hm6 hv6); have HC6 := Lib.hid (HC5.out.trans (FacP.chg hv6)); clear hm6 hv6 hc5))
          go_roundw
          case rel => exact ⟨j + 1, vh6, vq6, by omega, by go_num, by rw [HT.out, HST.out]; exact HF6.out, HC6.out⟩
          case measure => simp [intOf]; omega
        | false =>
          have HG := Lib.hid (show ∀ W, Blk W b tF (fcs (P52.withS (P52.off F k) s4) p nb) → Calls Tryz.prog 43 #[.pointer (some ⟨b, 0, none⟩), .int .i64 u, .int .i64 k] W fun e w' => e = .returned (.bool false) ∧ Below W.heap.size W w' from fun W hW => by
            have h := cfGone u k hur b p nb _ W hW
            rwa [show P52.gone (P52.withS (P52.off F k) s4) u k = false from hg] at h)
          have HST := Lib.hid (show P52.failStep (P52.off F k) k s4 u = s4 from by unfold P52.failStep; rw [if_neg (by rw [hg]; decide)])
          clear hg hur
          go_wp2_with (go_at_call 43; refine (HG.out _ HF4.out.box).mono ?_; rintro e w5 ⟨rfl, hb5⟩; have HF5 := Lib.hid (HF4.out.below hb5); have HC5 := Lib.hid (HC4.out.trans ((Chg.of_below (S := FSet wr b p nb) hb5).congr (fun _ => Iff.rfl) (fun x => HF4.out.foot_below hb5 x))); clear hb5 hcu)
          go_roundw
          case rel => exact ⟨j + 1, vh4, vq4, by omega, by go_num, by rw [HT.out, HST.out]; exact HF5.out, HC5.out⟩
          case measure => simp [intOf]; omega
      · have hjm : j = m := by omega
        subst hjm
        have HF5 := Lib.hid (show FacP wr B b p nb (P52.fail F k) vh4 vq4 from by
          have h := HF4.out
          rw [List.take_of_length_le (by rw [HM.out]; exact Nat.le_refl _)] at h
          rw [HP.out]
          exact h)
        have HC5 := Lib.hid (HC3.out.trans HC4.out)
        have hc11 := HF5.out.box.cell 11
        simp [fcs] at hc11
        go_wp2_with (go_at_call 45; refine (enqWaiting nb _ HF5.out.nm).mono ?_; rintro e w6 ⟨rfl, rfl⟩)
        clear hc11
        obtain ⟨w9, hw9⟩ : ∃ w9, w9 = wr := ⟨_, rfl⟩
        subst hw9
        go_loopw [50] (fun i wr => i = .int .i64 0 ∧ w9 = wr) (fun _ _ => 0)
        case atStart => exact ⟨rfl, rfl⟩
        case round =>
          obtain ⟨rfl, rfl⟩ := hrel
          go_wp2
          go_end0
          exact ⟨_, rfl, HF5.out.fac, HC5.out⟩
  · have HP := Lib.hid (show P52.fail F k = F from by unfold P52.fail; rw [if_neg hok])
    have hok2 : P52.okS k = false := by simpa using hok
    have HOK := Lib.hid hok2
    clear hok hok2 hf
    go_enter Tryz.func11, Tryz.ntmps11
    go_wp2_with (go_at_call 40; refine HE.out.mono ?_; rintro x w2 ⟨rfl, rfl⟩; rw [HOK.out])
    go_end0
    rw [HP.out]
    exact ⟨S, rfl, HFA.out, Chg.refl _ _⟩
end Go.Proofs.YtjklhiifjnmedaaGreat
namespace Go.Proofs.YtjklhiifjnmedaaGreat
open Go.RowKit Go.Maps P16 P46
attribute [local go_sem] ByteArray.mk_append_mk ByteArray.extract_mk mk_index

/-- 'append(s, t...)', s a row of numbers of the call's own. -/
theorem wpList_append_ints {P : Program} {w : World} {ops : Array Oper} {rest : List Oper} {o : Oper} {a : Act} {Q : Exit → Act → World → Prop} (hgd : o.guard = none) (s x : Operand) (t : TypeId)
    (ho : o.op = .call { callee := .builtin .append, args := #[s, x], argTypes := #[t, t] })
    (base : Nat) (i : TypeInfo) (z : Value) (ht : P.underlying t = some (.slice 3)) (hi : P.info? 3 = some i) (hz : i.zero = some z)
    (hsize : i.size = 1) (hby : i.bytes = 8) (hzs : z.cells.size = 1)
    (v : Value) (ls : List Int) (hs : a.eval s = v) (hown : OwnI w base v ls) (ms : List Int) (A : Option Addr) (m c : Nat) (hx : a.eval x = .slice A m c) (hz0 : A = none → m = 0) (hc : IntsAt w A m ms)
    (hlen : ls.length + m ≤ 1000000) (hbase : base ≤ w.heap.size)
    (h : ∀ v' w', OwnI w' base v' (ls ++ ms) → w.grownBy w' v.ownBlock → (v'.ownBlock = v.ownBlock ∨ v'.ownBlock = some w.heap.size) → wpList P ops Q rest (a.put o.dst v') w') :
    wpList P ops Q (o :: rest) a w := by
  cases A with
  | none =>
    have h0 := hz0 rfl
    subst h0
    have hm : ms = [] := List.eq_nil_of_length_eq_zero hc.len
    subst hm
    rcases hown.2 with ⟨rfl, h0⟩ | ⟨g, cap, cur, rfl, a2, a3, a4, a5⟩
    · refine wpList_append_none hgd s x t ho 3 i ht hi none 0 0 c hs hx (Nat.le_refl _) ?_
      exact h _ w (by rw [List.append_nil]; exact hown) (grown_refl _ _) (.inl rfl)
    · refine wpList_append_none hgd s x t ho 3 i ht hi _ _ _ c hs hx a4 ?_
      exact h _ w (by rw [List.append_nil]; exact hown) (grown_refl _ _) (.inl rfl)
  | some ad =>
    refine wpList_append_own_at (P := P) w hgd s x t ho base 3 i z 1 8 ht hi hz hsize hby hzs (by omega) v ls.length _ hs hown ad m c (ms.map (Value.int .i64)) hx (by rw [List.length_map, hc.len]; omega) ?_ (fun u hu => by obtain ⟨n, _, rfl⟩ := List.mem_map.1 hu; rfl) (by unfold maxLen; omega) (by omega) hbase ?_
    · intro j u hj
      obtain ⟨b', off', he, h1⟩ := hc.2 j u hj
      injection he with he
      subst he
      rw [Addr.add_lit]
      exact h1
    · intro v' w' h1 h2 h3 h4
      refine h v' w' ?_ h2 h4
      unfold OwnI
      rw [List.length_append, List.map_append, hc.len]
      exact h1
theorem OwnI.nilLen {w : World} {B : Nat} {A : Option Addr} {n c : Nat} {ls : List Int} (h : OwnI w B (.slice A n c) ls) : A = none → n = 0 := by
  intro e
  subst e
  rcases h.2 with ⟨h1, _⟩ | ⟨g, cap, cur, h1, _⟩
  · injection h1
  · injection h1 with h1
    cases h1
section
variable {w w1 w2 w' : World} {B b p nb : Nat} {F : P52.Fs} {vh vq : Value} {S S' : Nat → Prop} {rw_ : Option Nat}
theorem FacP.rowed (h : FacP w B b p nb F vh vq) (hg : w.grownBy w' rw_) (hn : ∀ x, rw_ = some x → ¬ FSet w b p nb x) : FacP w' B b p nb F vh vq :=
  ⟨h.box.grown hg (fun e => hn b e.symm (.inl rfl)), h.mgr.far hg (fun x hx hf => hn x hx (.inr (.inr hf))), h.nm.grown hg (fun e => hn nb e.symm (.inr (.inl rfl))), h.base, h.nbase⟩
theorem FacP.foot_row (h : FacP w B b p nb F vh vq) (hg : w.grownBy w' rw_) (hn : ∀ x, rw_ = some x → ¬ FSet w b p nb x) (k : Nat) : FSet w' b p nb k ↔ FSet w b p nb k := by
  unfold FSet
  rw [h.mgr.foot, (h.rowed hg hn).mgr.foot]
theorem Chg.rowed (c : Chg S S' w w1) (hg : w1.grownBy w2 rw_) (hr : ∀ x, rw_ = some x → w.heap.size ≤ x) : Chg S S' w w2 :=
  ⟨hg.os.trans c.os, hg.tape.trans c.tape, hg.output.trans c.output, Nat.le_trans c.size hg.size, fun k hk hn => (hg.block k (Nat.lt_of_lt_of_le hk c.size) (fun e => by have := hr k e.symm; omega)).trans (c.block k hk hn), c.sub⟩
end
theorem OwnI.reads52 {w : World} {B : Nat} {A : Option Addr} {n c : Nat} {xs : List Int} (h : OwnI w B (.slice A n c) xs) : IntsAt w A n xs ∧ xs.length = n := by
  obtain ⟨A', c', hv, hs, -⟩ := h.cells
  injection hv with h1 h2 h3
  subst h1
  rw [← h2] at hs
  exact ⟨hs, h2.symm⟩
theorem own_two {w : World} {B : Nat} {v v' : Value} {xs : List Int} (h : OwnI w B v xs) (hx : ∀ x, v'.ownBlock = some x → x < B) : v'.ownBlock = none ∨ v'.ownBlock ≠ v.ownBlock := by
  rcases e : v'.ownBlock with _ | k
  · exact .inl rfl
  · refine .inr (fun e2 => ?_)
    have h1 := (h.lt k e2.symm).1
    have h2 := hx k e
    omega
theorem grantGo_out : ∀ (rest h pre : List Lock) (out : List Int), (grantGo h pre rest out).2.length + (grantGo h pre rest out).1.q.length = out.length + pre.length + rest.length
  | [], h, pre, out => by simp [grantGo]
  | l :: rest, h, pre, out => by
    rw [grantGo]
    split
    · rw [grantGo_out]; simp; omega
    · rw [grantGo_out]; simp; omega
theorem release_out (s : St) (u : Int) : (P46.release s u).2.length + (P46.release s u).1.q.length ≤ s.q.length := by
  show (grantGo (drop s.h u) [] (drop s.q u) []).2.length + (grantGo (drop s.h u) [] (drop s.q u) []).1.q.length ≤ _
  rw [grantGo_out]
  have := P52.drop_len s.q u
  simp
  omega
theorem frees_out : ∀ (us : List Int) (r : St × List Int) (m : Nat), r.2.length + r.1.q.length ≤ m → (us.foldl P52.freeStep r).2.length + (us.foldl P52.freeStep r).1.q.length ≤ m
  | [], _, _, h => h
  | u :: us, r, m, h => by
    refine frees_out us (P52.freeStep r u) m ?_
    have := release_out r.1 u
    unfold P52.freeStep
    simp only [List.length_append]
    omega
theorem unitsr_num {F : P52.Fs} {k u : Int} (hv : Valids F.s) (h : u ∈ P52.unitsL (P52.retained F k)) : InR u := by
  unfold P52.unitsL at h
  rw [(setL_spec _).2, List.mem_map] at h
  obtain ⟨l, hl, rfl⟩ := h
  exact InR.num (valid_num (hv.1 l (List.mem_filter.1 hl).1))
set_option maxRecDepth 100000 in
set_option maxHeartbeats 4000000 in
theorem cfFree (k : Int) (B b : Nat) (F : P52.Fs) (S : Nat → Prop) (w : World) (n : Nat) (hf : Fac w B b F S) (ok : P52.Ok F n) (hn : n < 90000) :
    Calls Tryz.prog 12 #[.pointer (some ⟨b, 0, none⟩), .int .i64 k] w (IPost w B b S (P52.free F k).1 (P52.free F k).2) := by
  have HR := Lib.hid (cfRetained k B b F S w n hf ok hn)
  obtain ⟨p, nb, vh, vq, h, hs⟩ := hf
  have HF := Lib.hid h
  have HS := Lib.hid hs
  have HSND := Lib.hid ok.snd
  have HP := Lib.hid (show P52.free F k = (P52.withS F ((P52.unitsL (P52.retained F k)).foldl P52.freeStep (F.s, [])).1, ((P52.unitsL (P52.retained F k)).foldl P52.freeStep (F.s, [])).2) from rfl)
  clear h hs ok
  obtain ⟨i1, hi1, hy0, hy1, hy2⟩ := info_parts infoI
  have HI1 := Lib.hid hi1
  have HY0 := Lib.hid hy0
  have HY1 := Lib.hid hy1
  have HY2 := Lib.hid hy2
  clear hi1 hy0 hy1 hy2
  obtain ⟨ret, hret⟩ : ∃ ret, P52.retained F k = ret := ⟨_, rfl⟩
  have HRN := Lib.hid (show ret.length ≤ n from by
    have h1 : (P52.retained F k).length ≤ F.s.h.length := List.length_filter_le _ _
    have h2 := HSND.out.len
    rw [hret] at h1
    omega)
  have HUR := Lib.hid (show ∀ u ∈ P52.unitsL ret, InR u from fun u hu => unitsr_num HSND.out.valids (by rw [hret]; exact hu))
  rw [hret] at HR HP
  clear hret
  go_enter Tryz.func12, Tryz.ntmps12
  go_wp2_with (first | (go_at_call 14; refine HR.out.mono ?_; rintro e w2 ⟨v2, rfl, ho2, hb2⟩; obtain ⟨A2, c2, rfl, hs2, -⟩ := ho2.cells; have HS2 := Lib.hid hs2; have HF2 := Lib.hid (HF.out.below hb2); have HC2 := Lib.hid ((Chg.of_below (S := FSet w b p nb) hb2).congr HS.out (fun x => HF.out.foot_below hb2 x)); have HB2 := Lib.hid hb2; clear ho2 hs2 hb2) | (go_at_call 42; refine (cfUnits A2 _ c2 ret w2 HS2.out (by have h := HRN.out; omega)).mono ?_; rintro e w3 ⟨v3, rfl, ho3, hb3⟩; have HF3 := Lib.hid (HF2.out.below hb3); have HC3 := Lib.hid (HC2.out.trans ((Chg.of_below (S := FSet w2 b p nb) hb3).congr (fun _ => Iff.rfl) (fun x => HF2.out.foot_below hb3 x))); have HZ3 := Lib.hid (show ∀ x, FSet w3 b p nb x → x < w2.heap.size from fun x hx => (HF2.out.ge ((HF2.out.foot_below hb3 x).1 hx)).2); have HZ := Lib.hid (show w.heap.size ≤ w2.heap.size ∧ w2.heap.size ≤ w3.heap.size from ⟨HB2.out.size, hb3.size⟩); obtain ⟨A3, c3, rfl, -, -⟩ := ho3.cells; have HO3 := Lib.hid ho3; clear ho3 hb3))
  obtain ⟨us, hus⟩ : ∃ us, P52.unitsL ret = us := ⟨_, rfl⟩
  obtain ⟨m, hm⟩ : ∃ m, us.length = m := ⟨_, rfl⟩
  have hm9 : m ≤ 90000 := by
    have h1 := units_len ret
    have h2 := HRN.out
    rw [hus, hm] at h1
    omega
  rw [hus] at HO3 HP HUR ⊢
  rw [hm] at HO3 ⊢
  have HM := Lib.hid hm
  clear hus hm
  go_loopw [5, 15] (fun v i wr => ∃ (j : Nat) (vh vq : Value), j ≤ m ∧ i = .int .i64 j ∧ FacP wr B b p nb (P52.withS F ((us.take j).foldl P52.freeStep (F.s, [])).1) vh vq ∧ Chg S (FSet wr b p nb) w wr ∧ OwnI wr w3.heap.size v ((us.take j).foldl P52.freeStep (F.s, [])).2 ∧ OwnI wr w2.heap.size (.slice A3 m c3) us ∧ (∀ x, v.ownBlock = some x → ¬ FSet wr b p nb x) ∧ (∀ x, (Value.slice A3 m c3).ownBlock = some x → ¬ FSet wr b p nb x ∧ x < w3.heap.size) ∧ w3.heap.size ≤ wr.heap.size) (fun _ i _ => m - (intOf i).toNat)
  case atStart => exact ⟨0, vh, vq, Nat.zero_le _, rfl, HF3.out, HC3.out, OwnI.nil _ _, HO3.out, fun x hx => by simp [Value.ownBlock] at hx, fun x hx => ⟨fun hfs => by have h1 := (HO3.out.lt x hx).1; have h2 := HZ3.out x hfs; omega, (HO3.out.lt x hx).2⟩, Nat.le_refl _⟩
  case round =>
    obtain ⟨j, vh4, vq4, hj, rfl, hf4, hc4, hv4, hu4, hn4, hn5, hz4⟩ := hrel
    have HF4 := Lib.hid hf4
    have HC4 := Lib.hid hc4
    have HV4 := Lib.hid hv4
    have HU4 := Lib.hid hu4
    have HN4 := Lib.hid hn4
    have HN5 := Lib.hid hn5
    have HZ4 := Lib.hid hz4
    clear hf4 hc4 hv4 hu4 hn4 hn5 hz4
    by_cases hlt : j < m
    · obtain ⟨b4, o4, u, rfl, hu, hcu⟩ := HU4.out.reads52.1.at_ hlt
      have HT := Lib.hid (fold_take P52.freeStep (F.s, ([] : List Int)) hu)
      have hur := HUR.out u (List.mem_iff_getElem?.2 ⟨j, hu⟩)
      have HS4 := Lib.hid (P52.Snd.frees (us.take j) (r := (F.s, ([] : List Int))) HSND.out)
      have HO4 := Lib.hid (frees_out (us.take j) (F.s, ([] : List Int)) n (by have h := HSND.out.len; simp; omega))
      generalize (us.take j).foldl P52.freeStep (F.s, ([] : List Int)) = r4 at HF4 HV4 HT HS4 HO4
      obtain ⟨⟨sh, sq⟩, out4⟩ := r4
      dsimp only at HF4 HV4 HT HS4 HO4
      have hc10 := HF4.out.box.cell 10
      simp [fcs] at hc10
      obtain ⟨A9, c9, rfl, -, -⟩ := OwnI.cells HV4.out
      clear hu
      go_wp2_with (first | (go_at_call 47; refine (lkRelease u B p sh sq vh4 vq4 wr HF4.out.mgr (by have h : sh.length + sq.length ≤ n := HS4.out.len; omega) HS4.out.valids).mono ?_; rintro e w5 ⟨v5, vh5, vq5, rfl, ho5, hm5, hv5, -⟩; have hcc := FacP.chg (b := b) (nb := nb) hv5; have HF5 := Lib.hid (show FacP w5 B b p nb (P52.withS F (P46.release ⟨sh, sq⟩ u).1) vh5 vq5 from HF4.out.moved (s := (P46.release ⟨sh, sq⟩ u).1) hm5 hv5); have HC5 := Lib.hid (HC4.out.trans hcc); have HV5 := Lib.hid (own_chg HV4.out hcc HN4.out); have HU5 := Lib.hid (own_chg HU4.out hcc (fun x hx => (HN5.out x hx).1)); have HN45 := Lib.hid (show ∀ x, (Value.slice A9 out4.length c9).ownBlock = some x → ¬ FSet w5 b p nb x from fun x hx hfs => (hcc.sub x hfs).elim (HN4.out x hx) (fun h => by have h2 := (HV4.out.lt x hx).2; omega)); have HN55 := Lib.hid (show ∀ x, (Value.slice (some ⟨b4, o4, none⟩) m c3).ownBlock = some x → ¬ FSet w5 b p nb x ∧ x < w3.heap.size from fun x hx => ⟨fun hfs => (hcc.sub x hfs).elim (HN5.out x hx).1 (fun h => by have h2 := (HU4.out.lt x hx).2; omega), (HN5.out x hx).2⟩); have HZ5 := Lib.hid (Nat.le_trans HZ4.out hcc.size); obtain ⟨A5, c5, rfl, hs5, -⟩ := ho5.cells; have HS5 := Lib.hid hs5; have HL5 := Lib.hid ho5.nilLen; clear ho5 hm5 hv5 hcc hs5 hc10 hcu) | (at_builtin; refine wpList_append_ints rfl (.tmp 19) (.tmp 25) _ rfl w3.heap.size i1 _ Tryz.underlying34 HI1.out HY0.out HY1.out HY2.out rfl _ out4 rfl HV5.out _ A5 _ c5 rfl HL5.out HS5.out (by have h1 : out4.length + sq.length ≤ n := HO4.out; have h2 : (P46.release ⟨sh, sq⟩ u).2.length + (P46.release ⟨sh, sq⟩ u).1.q.length ≤ sq.length := release_out ⟨sh, sq⟩ u; omega) HZ5.out ?_; intro v7 w7 hown7 hg7 hat7; have HV7 := Lib.hid hown7; have HF7 := Lib.hid (HF5.out.rowed hg7 HN45.out); have HC7 := Lib.hid ((HC5.out.rowed hg7 (fun x hx => by have h1 := (HV5.out.lt x hx).1; have h2 := HZ.out; omega)).congr (fun _ => Iff.rfl) (fun x => HF5.out.foot_row hg7 HN45.out x)); have HU7 := Lib.hid (OwnI.kept HU5.out hg7 (own_two HV5.out (fun x hx => (HN55.out x hx).2))); have HN7 := Lib.hid (show ∀ x, v7.ownBlock = some x → ¬ FSet w7 b p nb x from fun x hx hfs => by have hf5 := (HF5.out.foot_row hg7 HN45.out x).1 hfs; rcases hat7 with e | e; exact HN45.out x (e ▸ hx) hf5; have hlt5 := (HF5.out.ge hf5).2; rw [e] at hx; injection hx with hx; omega); have HN57 := Lib.hid (show ∀ x, (Value.slice (some ⟨b4, o4, none⟩) m c3).ownBlock = some x → ¬ FSet w7 b p nb x ∧ x < w3.heap.size from fun x hx => ⟨fun hfs => (HN55.out x hx).1 ((HF5.out.foot_row hg7 HN45.out x).1 hfs), (HN55.out x hx).2⟩); have HZ7 := Lib.hid (Nat.le_trans HZ5.out hg7.size); clear hown7 hg7 hat7))
      go_roundw
      case rel => exact ⟨j + 1, vh5, vq5, by omega, by go_num, by rw [HT.out]; exact HF7.out, HC7.out, by rw [HT.out]; exact HV7.out, HU7.out, HN7.out, HN57.out, HZ7.out⟩
      case measure => simp [intOf]; omega
    · have hjm : j = m := by omega
      subst hjm
      have e1 : us.take j = us := List.take_of_length_le (by rw [HM.out]; exact Nat.le_refl _)
      rw [e1] at HF4 HV4
      have HF5 := Lib.hid (show FacP wr B b p nb (P52.free F k).1 vh4 vq4 from by rw [HP.out]; exact HF4.out)
      have HV5 := Lib.hid (show OwnI wr w3.heap.size u5 (P52.free F k).2 from by rw [HP.out]; exact HV4.out)
      have hc11 := HF5.out.box.cell 11
      simp [fcs] at hc11
      clear HF4 HV4 e1
      go_wp2_with (go_at_call 48; refine (enqOwners nb _ HF5.out.nm).mono ?_; rintro e w6 ⟨rfl, hb6⟩; have HF6 := Lib.hid (HF5.out.below hb6); have HC6 := Lib.hid (HC4.out.trans ((Chg.of_below (S := FSet wr b p nb) hb6).congr (fun _ => Iff.rfl) (fun x => HF5.out.foot_below hb6 x))); have HV6 := Lib.hid (HV5.out.below hb6); have HN6 := Lib.hid (show ∀ x, u5.ownBlock = some x → ¬ FSet w6 b p nb x from fun x hx hfs => HN4.out x hx ((HF5.out.foot_below hb6 x).1 hfs)); clear hb6 hc11)
      clear HC4 HN4 HZ4 HU4 HN5 HF5 HV5 wr
      go_loopw [34] (fun i wr => i = .int .i64 0 ∧ w6 = wr) (fun _ _ => 0)
      case atStart => exact ⟨rfl, rfl⟩
      case round =>
        obtain ⟨rfl, rfl⟩ := hrel
        go_wp2
        go_ret
        exact ⟨_, _, rfl, HV6.out.base (by have h := HZ.out; omega), HF6.out.fac, HC6.out, HN6.out⟩
end Go.Proofs.YtjklhiifjnmedaaGreat
