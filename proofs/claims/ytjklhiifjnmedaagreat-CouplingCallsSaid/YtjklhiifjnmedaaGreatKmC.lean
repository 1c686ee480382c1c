/- The walks of the reference's leaves: parts, Of, meet. The reference's Retained and Export. The reference's meet: two locks touch a common class. The reference's alone: no other system has an interest in the classes of a lock. The reference's Connect and Lose. -/
import Derived.Test.YtjklhiifjnmedaaGreatCmB
import Derived.Test.YtjklhiifjnmedaaGreatCmE
import Derived.Deep.RegionWith
import Derived.Deep.DeepCutAuto
import Derived.Test.YtjklhiifjnmedaaGreatLkApp
import Derived.Test.YtjklhiifjnmedaaGreatKmB
import Derived.BigQuiet
namespace Go.Proofs.YtjklhiifjnmedaaGreat
open Go.RowKit P16 P46
attribute [local go_sem] ByteArray.mk_append_mk ByteArray.extract_mk mk_index

set_option maxRecDepth 100000 in
set_option maxHeartbeats 1000000 in
theorem roParts (u : Int) (hu : InR u) (w : World) : Calls Tryz.prog 66 #[.int .i64 u] w fun e w' => e = .returned (.tuple #[.int .i64 (P52.sysOf u), .int .i64 (P52.epOf u)]) ∧ w = w' := by
  unfold InR at hu
  by_cases h1 : u < 1
  · have HS := Lib.hid (show P52.sysOf u = 0 ∧ P52.epOf u = 0 from by unfold P52.sysOf P52.epOf; rw [if_pos (.inl h1), if_pos (.inl h1)]; exact ⟨rfl, rfl⟩)
    go_enter Tryz.func66, Tryz.ntmps66
    go_wp2
    go_ret2
    rw [HS.out.1, HS.out.2]
    exact ⟨rfl, rfl⟩
  · cases b2 : (u % 65536 == 0)
    · have h2 : u % 65536 ≠ 0 := by simpa using b2
      by_cases h3 : u / 65536 < 4
      · have HS := Lib.hid (show P52.sysOf u = 0 ∧ P52.epOf u = 0 from by unfold P52.sysOf P52.epOf; rw [if_pos (.inr (.inr (.inl (by omega)))), if_pos (.inr (.inr (.inl (by omega))))]; exact ⟨rfl, rfl⟩)
        clear h2
        go_enter Tryz.func66, Tryz.ntmps66
        go_wp2
        go_ret2
        rw [HS.out.1, HS.out.2]
        exact ⟨rfl, rfl⟩
      · by_cases h4 : 262144 ≤ u / 65536
        · have HS := Lib.hid (show P52.sysOf u = 0 ∧ P52.epOf u = 0 from by unfold P52.sysOf P52.epOf; rw [if_pos (.inr (.inr (.inr (by omega)))), if_pos (.inr (.inr (.inr (by omega))))]; exact ⟨rfl, rfl⟩)
          clear h2
          go_enter Tryz.func66, Tryz.ntmps66
          go_wp2
          go_ret2
          rw [HS.out.1, HS.out.2]
          exact ⟨rfl, rfl⟩
        · have HS := Lib.hid (show P52.sysOf u = u / 65536 % 4 + 1 ∧ P52.epOf u = u / 65536 / 4 from by unfold P52.sysOf P52.epOf; rw [if_neg (by omega), if_neg (by omega)]; exact ⟨rfl, rfl⟩)
          clear h2
          go_enter Tryz.func66, Tryz.ntmps66
          go_wp2
          go_ret2
          rw [HS.out.1, HS.out.2]
          exact ⟨rfl, rfl⟩
    · have h2 : u % 65536 = 0 := by simpa using b2
      have HS := Lib.hid (show P52.sysOf u = 0 ∧ P52.epOf u = 0 from by unfold P52.sysOf P52.epOf; rw [if_pos (.inr (.inl h2)), if_pos (.inr (.inl h2))]; exact ⟨rfl, rfl⟩)
      clear h2
      go_enter Tryz.func66, Tryz.ntmps66
      go_wp2
      go_ret2
      rw [HS.out.1, HS.out.2]
      exact ⟨rfl, rfl⟩
/-- The unit belongs to system k. -/
def ofB (u k : Int) : Bool := decide (P52.sysOf u ≠ 0) && decide (P52.sysOf u = k)
set_option maxRecDepth 100000 in
theorem roOf (u k : Int) (hu : InR u) (w : World) : Calls Tryz.prog 61 #[.int .i64 u, .int .i64 k] w fun e w' => e = .returned (.bool (ofB u k)) ∧ w = w' := by
  have HC := Lib.hid (roParts u hu w)
  have hle := P52.sysOf_le u
  obtain ⟨s, hs⟩ : ∃ s, P52.sysOf u = s := ⟨_, rfl⟩
  have HP := Lib.hid (show ofB u k = (decide (P52.sysOf u ≠ 0) && decide (P52.sysOf u = k)) from rfl)
  rw [hs] at hle
  have HS := Lib.hid hs
  clear hs hu
  by_cases h0 : s = 0
  · have HZ := Lib.hid h0
    subst h0
    clear hle
    go_enter Tryz.func61, Tryz.ntmps61
    go_wp2_with (go_at_call 66; refine HC.out.mono ?_; rintro e w2 ⟨rfl, rfl⟩; rw [HS.out])
    go_ret
    rw [HP.out, HS.out]
    exact ⟨rfl, rfl⟩
  · have hpos : 0 < s := by omega
    have HZ := Lib.hid h0
    clear h0
    by_cases hk : s = k
    all_goals
      have HK := Lib.hid hk
      first | (have b1 := beq_of hk) | (have b1 := beq_not hk)
      clear hk
      go_enter Tryz.func61, Tryz.ntmps61
      go_wp2_with (go_at_call 66; refine HC.out.mono ?_; rintro e w2 ⟨rfl, rfl⟩; rw [HS.out])
      go_ret
      rw [HP.out, HS.out]
      exact ⟨retBool (by have h1 := HZ.out; have h2 := HK.out; first | (simp [h1, h2]; done) | (subst h2; simp [h1])), rfl⟩
/-- The cells of the reference's state. -/
def rcs (F : P52.Fs) (v1 v2 : Value) : Array Value := #[.int .i64 (F.ep 1), .int .i64 (F.ep 2), .int .i64 (F.ep 3), .int .i64 (F.ep 4), .bool (F.cn 1), .bool (F.cn 2), .bool (F.cn 3), .bool (F.cn 4), v1, v2, .bool F.lost, .int .i64 F.fast]
theorem rcn_cell {w : World} {g : Nat} {t : TypeId} {F : P52.Fs} {v1 v2 : Value} (h : Blk w g t (rcs F v1 v2)) {k : Int} (h1 : 1 ≤ k) (h4 : k ≤ 4) : w.cell? ⟨g, 4 + (k - 1).toNat, none⟩ = some (.bool (F.cn k.toNat)) := by
  have hk : k = 1 ∨ k = 2 ∨ k = 3 ∨ k = 4 := by omega
  rcases hk with rfl | rfl | rfl | rfl <;> exact h.cell _
theorem rep_cell {w : World} {g : Nat} {t : TypeId} {F : P52.Fs} {v1 v2 : Value} (h : Blk w g t (rcs F v1 v2)) {k : Int} (h1 : 1 ≤ k) (h4 : k ≤ 4) : w.cell? ⟨g, (k - 1).toNat, none⟩ = some (.int .i64 (F.ep k.toNat)) := by
  have hk : k = 1 ∨ k = 2 ∨ k = 3 ∨ k = 4 := by omega
  rcases hk with rfl | rfl | rfl | rfl <;> exact h.cell _
set_option maxRecDepth 100000 in
set_option maxHeartbeats 1000000 in
theorem roPresent (F : P52.Fs) (v1 v2 : Value) (u : Int) (hu : InR u) (w : World) : Calls Tryz.prog 62 #[.agg (rcs F v1 v2), .int .i64 u] w fun e w' => e = .returned (.bool (P52.pres F u)) ∧ Below w.heap.size w w' := by
  have HC := Lib.hid (fun W => roParts u hu W)
  have hle := P52.sysOf_le u
  obtain ⟨s, hs⟩ : ∃ s, P52.sysOf u = s := ⟨_, rfl⟩
  obtain ⟨ep, he⟩ : ∃ ep, P52.epOf u = ep := ⟨_, rfl⟩
  have HP := Lib.hid (show P52.pres F u = (decide (P52.sysOf u ≠ 0) && (F.cn (P52.sysOf u).toNat && decide (F.ep (P52.sysOf u).toNat = P52.epOf u))) from rfl)
  rw [hs] at hle
  have HS := Lib.hid (And.intro hs he)
  clear hs he hu
  by_cases h0 : s = 0
  · subst h0
    clear hle
    unfold rcs
    go_enter Tryz.func62, Tryz.ntmps62
    go_upto_region 1 with (fail)
    obtain ⟨w1, g, e1, e2, hb, hx⟩ := boxes1 w 55 (rcs F v1 v2)
    unfold rcs at e1
    rw [e1, e2]
    have HB := Lib.hid hb
    clear e1 e2 hb hx
    go_wp2_with (go_at_call 66; refine (HC.out _).mono ?_; rintro e w2 ⟨rfl, rfl⟩; rw [HS.out.1, HS.out.2])
    go_ret
    rw [HP.out, HS.out.1]
    exact ⟨rfl, HB.out⟩
  · have hs4 : s = 1 ∨ s = 2 ∨ s = 3 ∨ s = 4 := by omega
    clear h0 hle
    rcases hs4 with rfl | rfl | rfl | rfl
    · cases hcn : F.cn 1 <;> cases hee : (F.ep 1 == ep)
      all_goals
        have HQ := Lib.hid (And.intro hcn hee)
        clear hcn
        unfold rcs
        go_enter Tryz.func62, Tryz.ntmps62
        go_upto_region 1 with (fail)
        obtain ⟨w1, g, e1, e2, hb, hx⟩ := boxes1 w 55 (rcs F v1 v2)
        unfold rcs at e1
        rw [e1, e2]
        have HB := Lib.hid hb
        have hc : w1.cell? ⟨g, 4, none⟩ = some (.bool (F.cn 1)) := hx.cell 4
        have he : w1.cell? ⟨g, 0, none⟩ = some (.int .i64 (F.ep 1)) := hx.cell 0
        rw [HQ.out.1] at hc
        clear e1 e2 hb hx
        go_wp2_with (go_at_call 66; refine (HC.out _).mono ?_; rintro e w2 ⟨rfl, rfl⟩; rw [HS.out.1, HS.out.2])
        go_ret
        rw [HP.out, HS.out.1, HS.out.2]
        exact ⟨retBool (by
          show _ = (decide (((1 : Int)) ≠ 0) && (F.cn 1 && decide (F.ep 1 = ep)))
          rw [HQ.out.1, show decide (F.ep 1 = ep) = (F.ep 1 == ep) from by rw [Bool.eq_iff_iff]; simp, HQ.out.2]
          rfl), HB.out⟩
    · cases hcn : F.cn 2 <;> cases hee : (F.ep 2 == ep)
      all_goals
        have HQ := Lib.hid (And.intro hcn hee)
        clear hcn
        unfold rcs
        go_enter Tryz.func62, Tryz.ntmps62
        go_upto_region 1 with (fail)
        obtain ⟨w1, g, e1, e2, hb, hx⟩ := boxes1 w 55 (rcs F v1 v2)
        unfold rcs at e1
        rw [e1, e2]
        have HB := Lib.hid hb
        have hc : w1.cell? ⟨g, 5, none⟩ = some (.bool (F.cn 2)) := hx.cell 5
        have he : w1.cell? ⟨g, 1, none⟩ = some (.int .i64 (F.ep 2)) := hx.cell 1
        rw [HQ.out.1] at hc
        clear e1 e2 hb hx
        go_wp2_with (go_at_call 66; refine (HC.out _).mono ?_; rintro e w2 ⟨rfl, rfl⟩; rw [HS.out.1, HS.out.2])
        go_ret
        rw [HP.out, HS.out.1, HS.out.2]
        exact ⟨retBool (by
          show _ = (decide (((2 : Int)) ≠ 0) && (F.cn 2 && decide (F.ep 2 = ep)))
          rw [HQ.out.1, show decide (F.ep 2 = ep) = (F.ep 2 == ep) from by rw [Bool.eq_iff_iff]; simp, HQ.out.2]
          rfl), HB.out⟩
    · cases hcn : F.cn 3 <;> cases hee : (F.ep 3 == ep)
      all_goals
        have HQ := Lib.hid (And.intro hcn hee)
        clear hcn
        unfold rcs
        go_enter Tryz.func62, Tryz.ntmps62
        go_upto_region 1 with (fail)
        obtain ⟨w1, g, e1, e2, hb, hx⟩ := boxes1 w 55 (rcs F v1 v2)
        unfold rcs at e1
        rw [e1, e2]
        have HB := Lib.hid hb
        have hc : w1.cell? ⟨g, 6, none⟩ = some (.bool (F.cn 3)) := hx.cell 6
        have he : w1.cell? ⟨g, 2, none⟩ = some (.int .i64 (F.ep 3)) := hx.cell 2
        rw [HQ.out.1] at hc
        clear e1 e2 hb hx
        go_wp2_with (go_at_call 66; refine (HC.out _).mono ?_; rintro e w2 ⟨rfl, rfl⟩; rw [HS.out.1, HS.out.2])
        go_ret
        rw [HP.out, HS.out.1, HS.out.2]
        exact ⟨retBool (by
          show _ = (decide (((3 : Int)) ≠ 0) && (F.cn 3 && decide (F.ep 3 = ep)))
          rw [HQ.out.1, show decide (F.ep 3 = ep) = (F.ep 3 == ep) from by rw [Bool.eq_iff_iff]; simp, HQ.out.2]
          rfl), HB.out⟩
    · cases hcn : F.cn 4 <;> cases hee : (F.ep 4 == ep)
      all_goals
        have HQ := Lib.hid (And.intro hcn hee)
        clear hcn
        unfold rcs
        go_enter Tryz.func62, Tryz.ntmps62
        go_upto_region 1 with (fail)
        obtain ⟨w1, g, e1, e2, hb, hx⟩ := boxes1 w 55 (rcs F v1 v2)
        unfold rcs at e1
        rw [e1, e2]
        have HB := Lib.hid hb
        have hc : w1.cell? ⟨g, 7, none⟩ = some (.bool (F.cn 4)) := hx.cell 7
        have he : w1.cell? ⟨g, 3, none⟩ = some (.int .i64 (F.ep 4)) := hx.cell 3
        rw [HQ.out.1] at hc
        clear e1 e2 hb hx
        go_wp2_with (go_at_call 66; refine (HC.out _).mono ?_; rintro e w2 ⟨rfl, rfl⟩; rw [HS.out.1, HS.out.2])
        go_ret
        rw [HP.out, HS.out.1, HS.out.2]
        exact ⟨retBool (by
          show _ = (decide (((4 : Int)) ≠ 0) && (F.cn 4 && decide (F.ep 4 = ep)))
          rw [HQ.out.1, show decide (F.ep 4 = ep) = (F.ep 4 == ep) from by rw [Bool.eq_iff_iff]; simp, HQ.out.2]
          rfl), HB.out⟩
end Go.Proofs.YtjklhiifjnmedaaGreat
namespace Go.Proofs.YtjklhiifjnmedaaGreat
open Go.RowKit P16 P46
attribute [local go_sem] ByteArray.mk_append_mk ByteArray.extract_mk mk_index

theorem rcells52 {w : World} {g : Nat} {t : TypeId} {F : P52.Fs} {v1 v2 : Value} (h : Blk w g t (rcs F v1 v2)) :
    w.cell? ⟨g, 0, none⟩ = some (.int .i64 (F.ep 1)) ∧ w.cell? ⟨g, 1, none⟩ = some (.int .i64 (F.ep 2)) ∧ w.cell? ⟨g, 2, none⟩ = some (.int .i64 (F.ep 3)) ∧ w.cell? ⟨g, 3, none⟩ = some (.int .i64 (F.ep 4)) ∧ w.cell? ⟨g, 4, none⟩ = some (.bool (F.cn 1)) ∧ w.cell? ⟨g, 5, none⟩ = some (.bool (F.cn 2)) ∧ w.cell? ⟨g, 6, none⟩ = some (.bool (F.cn 3)) ∧ w.cell? ⟨g, 7, none⟩ = some (.bool (F.cn 4)) ∧ w.cell? ⟨g, 8, none⟩ = some v1 ∧ w.cell? ⟨g, 9, none⟩ = some v2 ∧ w.cell? ⟨g, 10, none⟩ = some (.bool F.lost) ∧ w.cell? ⟨g, 11, none⟩ = some (.int .i64 F.fast) :=
  ⟨h.cell 0, h.cell 1, h.cell 2, h.cell 3, h.cell 4, h.cell 5, h.cell 6, h.cell 7, h.cell 8, h.cell 9, h.cell 10, h.cell 11⟩
theorem filt_take {f : Lock → Bool} {ls : List Lock} {k : Nat} {l : Lock} (h : ls[k]? = some l) : (ls.take (k + 1)).filter f = if f l = true then (ls.take k).filter f ++ [l] else (ls.take k).filter f := by
  rw [take_snoc h, List.filter_append]
  by_cases e : f l = true <;> simp [e]
theorem gone_of {F : P52.Fs} {u k : Int} : P52.gone F u k = (ofB u k && !P52.pres F u) := by
  unfold P52.gone ofB
  cases decide (P52.sysOf u = k) <;> cases decide (P52.sysOf u ≠ 0) <;> simp
theorem export_of {F : P52.Fs} {u k : Int} : (decide (P52.sysOf u = k) && P52.pres F u) = (ofB u k && P52.pres F u) := by
  unfold ofB P52.pres
  cases decide (P52.sysOf u = k) <;> cases decide (P52.sysOf u ≠ 0) <;> simp
set_option maxRecDepth 100000 in
set_option maxHeartbeats 4000000 in
theorem roRetained (F : P52.Fs) (A : Option Addr) (n c : Nat) (v2 : Value) (k : Int) (w : World) (h : LocksAt w A n F.s.h) (hn : n ≤ 100000) (hu : ∀ l ∈ F.s.h, InR l.unit) :
    Calls Tryz.prog 33 #[.agg (rcs F (.slice A n c) v2), .int .i64 k] w fun e w' => ∃ v, e = .returned v ∧ OwnL w' w.heap.size 30 v (P52.retained F k) ∧ Below w.heap.size w w' := by
  have HH := Lib.hid h
  have HU := Lib.hid hu
  have HLN := Lib.hid h.len
  obtain ⟨i0, hi0, hz0, hz1, hz2⟩ := info_parts infoL
  have HI := Lib.hid hi0
  have HZ0 := Lib.hid hz0
  have HZ1 := Lib.hid hz1
  have HZ2 := Lib.hid hz2
  clear hi0 hz0 hz1 hz2 h hu
  have HDEF := Lib.hid (show P52.retained F k = F.s.h.filter (fun l => ofB l.unit k && !P52.pres F l.unit) from by unfold P52.retained; exact List.filter_congr (fun l _ => gone_of))
  have hlenL : (Tryz.prog.info? 30).map (·.size) = some 6 := by kernel_rfl
  unfold rcs
  go_enter Tryz.func33, Tryz.ntmps33
  go_upto_region 1 with (fail)
  obtain ⟨w1, g, e1, e2, hb, hx⟩ := boxes1 w 55 (rcs F (.slice A n c) v2)
  unfold rcs at e1
  rw [e1, e2]
  have HB1 := Lib.hid hb
  have HX1 := Lib.hid hx
  clear e1 e2 hb hx
  go_wp2
  go_loopw [5, 6] (fun v i wr => ∃ j : Nat, j ≤ n ∧ i = .int .i64 j ∧ OwnL wr w.heap.size 30 v ((F.s.h.take j).filter (fun l => ofB l.unit k && !P52.pres F l.unit)) ∧ Blk wr g 55 (rcs F (.slice A n c) v2) ∧ Below w.heap.size w wr) (fun _ i _ => n - (intOf i).toNat)
  case atStart => exact ⟨0, Nat.zero_le _, rfl, OwnL.empty _ _ _ HB1.out.size, HX1.out.alloc _, HB1.out.alloc HB1.out.size _⟩
  case round =>
    obtain ⟨j, hj, rfl, ho, hx, hbw⟩ := hrel
    have HO := Lib.hid ho
    have HX := Lib.hid hx
    have HB := Lib.hid hbw
    obtain ⟨-, -, -, -, -, -, -, -, d8, -, -, -⟩ := rcells52 hx
    clear ho hx hbw
    by_cases hlt : j < n
    · have hs := HH.out.below HB.out
      obtain ⟨b, off, l, rfl, hl, -⟩ := hs.at_ hlt
      have HR := Lib.hid (hs.row hl)
      have HT := Lib.hid (filt_take (f := fun l => ofB l.unit k && !P52.pres F l.unit) hl)
      have hur := HU.out l (List.mem_iff_getElem?.2 ⟨j, hl⟩)
      have hul : ((F.s.h.take j).filter (fun l => ofB l.unit k && !P52.pres F l.unit)).length ≤ j := Nat.le_trans (List.length_filter_le _ _) (List.length_take_le _ _)
      generalize (F.s.h.take j).filter (fun l => ofB l.unit k && !P52.pres F l.unit) = us at HO HT hul
      clear hs hl
      go_upto_region 6 with (refine wpList_load_cells rfl 30 (.tmp 21) rfl ⟨b, off + j * 6, none⟩ rfl _ _ HR.out Tryz.underlying30 rfl hlenL ?_)
      obtain ⟨w4, g4, e1, e2, hb4, h4⟩ := boxes1 wr 30 (la l)
      unfold la at e1
      rw [e1, e2]
      have HB4 := Lib.hid (HB.out.trans (hb4.mono HB.out.size))
      have HO4 := Lib.hid (HO.out.below hb4)
      have HX4 := Lib.hid (HX.out.below hb4)
      have HL4 := Lib.hid h4
      obtain ⟨a0, -, -, -, -, -⟩ := lcells h4
      obtain ⟨c0, c1, c2, c3, c4, c5, c6, c7, c8, c9, c10, c11⟩ := rcells52 HX4.out
      obtain ⟨A3, c3', rfl, -, -⟩ := HO4.out.cells
      clear e1 e2 hb4 h4 d8
      cases hof : ofB l.unit k
      · have HOF := Lib.hid (show ∀ W, Calls Tryz.prog 61 #[.int .i64 l.unit, .int .i64 k] W fun e w' => e = .returned (.bool false) ∧ W = w' from fun W => by have h := roOf l.unit k hur W; rwa [hof] at h)
        have HSK := Lib.hid (show (F.s.h.take (j + 1)).filter (fun l => ofB l.unit k && !P52.pres F l.unit) = us from by rw [HT.out, if_neg (by rw [hof]; simp)])
        clear hof
        go_wp2_with (go_at_call 61; refine (HOF.out _).mono ?_; rintro e w5 ⟨rfl, rfl⟩)
        go_roundw
        case rel => exact ⟨j + 1, by omega, by go_num, by rw [HSK.out]; exact HO4.out, HX4.out, HB4.out⟩
        case measure => simp [intOf]; omega
      · have HOF := Lib.hid (show ∀ W, Calls Tryz.prog 61 #[.int .i64 l.unit, .int .i64 k] W fun e w' => e = .returned (.bool true) ∧ W = w' from fun W => by have h := roOf l.unit k hur W; rwa [hof] at h)
        cases hpr : P52.pres F l.unit
        · have HPR := Lib.hid (show ∀ W, Calls Tryz.prog 62 #[.agg (rcs F (.slice (some ⟨b, off, none⟩) n c) v2), .int .i64 l.unit] W fun e w' => e = .returned (.bool false) ∧ Below W.heap.size W w' from fun W => by have h := roPresent F (.slice (some ⟨b, off, none⟩) n c) v2 l.unit hur W; rwa [hpr] at h)
          have HSK := Lib.hid (show (F.s.h.take (j + 1)).filter (fun l => ofB l.unit k && !P52.pres F l.unit) = us ++ [l] from by rw [HT.out, if_pos (by rw [hof, hpr]; rfl)])
          clear hof hpr
          go_wp2_with (first | (go_at_call 61; refine (HOF.out _).mono ?_; rintro e w5 ⟨rfl, rfl⟩) | (go_at_call 62; refine (HPR.out _).mono ?_; rintro e w6 ⟨rfl, hb6⟩; have HB6 := Lib.hid (HB4.out.trans (hb6.mono HB4.out.size)); have HO6 := Lib.hid (HO4.out.below hb6); have HX6 := Lib.hid (HX4.out.below hb6); have hr6 := (HL4.out.below hb6).add; unfold la at hr6; have HR6 := Lib.hid hr6; clear hb6 hr6) | (refine wpList_load_cells rfl 30 (.tmp 7) rfl ⟨g4, 0, none⟩ rfl _ _ HR6.out Tryz.underlying30 rfl hlenL ?_) | (at_builtin; refine wpList_append_lock rfl (.tmp 34) (.tmp 36) _ rfl w.heap.size 30 i0 _ 64 Tryz.underlying41 HI.out HZ0.out HZ1.out HZ2.out rfl (by omega) _ us rfl (HO6.out.alloc _) l w6.heap.size 0 1 rfl (LocksAt.lit1 w6 _ l) (by omega) (by have h := HB6.out.size; simp; omega) ?_; intro v7 w7 hown7 hg7 hat7 _; have HO7 := Lib.hid hown7; have HB7 := Lib.hid ((HB6.out.alloc HB6.out.size _).grown hg7 (by have h := HB6.out.size; rw [World.size_alloc]; omega) (fun z hz => (HO6.out.lt z hz).1)); have HX7 := Lib.hid ((HX6.out.alloc _).grown hg7 (fun e => own_ne HO6.out HX6.out (by decide) e.symm)); clear hown7 hg7 hat7))
          go_roundw
          case rel => exact ⟨j + 1, by omega, by go_num, by rw [HSK.out]; exact HO7.out, HX7.out, HB7.out⟩
          case measure => simp [intOf]; omega
        · have HPR := Lib.hid (show ∀ W, Calls Tryz.prog 62 #[.agg (rcs F (.slice (some ⟨b, off, none⟩) n c) v2), .int .i64 l.unit] W fun e w' => e = .returned (.bool true) ∧ Below W.heap.size W w' from fun W => by have h := roPresent F (.slice (some ⟨b, off, none⟩) n c) v2 l.unit hur W; rwa [hpr] at h)
          have HSK := Lib.hid (show (F.s.h.take (j + 1)).filter (fun l => ofB l.unit k && !P52.pres F l.unit) = us from by rw [HT.out, if_neg (by rw [hof, hpr]; simp)])
          clear hof hpr
          go_wp2_with (first | (go_at_call 61; refine (HOF.out _).mono ?_; rintro e w5 ⟨rfl, rfl⟩) | (go_at_call 62; refine (HPR.out _).mono ?_; rintro e w6 ⟨rfl, hb6⟩; have HB6 := Lib.hid (HB4.out.trans (hb6.mono HB4.out.size)); have HO6 := Lib.hid (HO4.out.below hb6); have HX6 := Lib.hid (HX4.out.below hb6); clear hb6))
          go_roundw
          case rel => exact ⟨j + 1, by omega, by go_num, by rw [HSK.out]; exact HO6.out, HX6.out, HB6.out⟩
          case measure => simp [intOf]; omega
    · have hjn : j = n := by omega
      subst hjn
      go_wp2
      go_ret
      refine ⟨_, rfl, ?_, HB.out⟩
      have ho := HO.out
      rw [List.take_of_length_le (by rw [HLN.out]; exact Nat.le_refl _), ← HDEF.out] at ho
      exact ho
set_option maxRecDepth 100000 in
set_option maxHeartbeats 4000000 in
theorem roExport (F : P52.Fs) (A : Option Addr) (n c : Nat) (v2 : Value) (k : Int) (w : World) (h : LocksAt w A n F.s.h) (hn : n ≤ 100000) (hu : ∀ l ∈ F.s.h, InR l.unit) :
    Calls Tryz.prog 28 #[.agg (rcs F (.slice A n c) v2), .int .i64 k] w fun e w' => ∃ v, e = .returned v ∧ OwnL w' w.heap.size 30 v (P52.exportL F k) ∧ Below w.heap.size w w' := by
  have HH := Lib.hid h
  have HU := Lib.hid hu
  have HLN := Lib.hid h.len
  obtain ⟨i0, hi0, hz0, hz1, hz2⟩ := info_parts infoL
  have HI := Lib.hid hi0
  have HZ0 := Lib.hid hz0
  have HZ1 := Lib.hid hz1
  have HZ2 := Lib.hid hz2
  clear hi0 hz0 hz1 hz2 h hu
  have HDEF := Lib.hid (show P52.exportL F k = F.s.h.filter (fun l => ofB l.unit k && P52.pres F l.unit) from by unfold P52.exportL; exact List.filter_congr (fun l _ => export_of))
  have hlenL : (Tryz.prog.info? 30).map (·.size) = some 6 := by kernel_rfl
  unfold rcs
  go_enter Tryz.func28, Tryz.ntmps28
  go_upto_region 1 with (fail)
  obtain ⟨w1, g, e1, e2, hb, hx⟩ := boxes1 w 55 (rcs F (.slice A n c) v2)
  unfold rcs at e1
  rw [e1, e2]
  have HB1 := Lib.hid hb
  have HX1 := Lib.hid hx
  clear e1 e2 hb hx
  go_wp2
  go_loopw [5, 6] (fun v i wr => ∃ j : Nat, j ≤ n ∧ i = .int .i64 j ∧ OwnL wr w.heap.size 30 v ((F.s.h.take j).filter (fun l => ofB l.unit k && P52.pres F l.unit)) ∧ Blk wr g 55 (rcs F (.slice A n c) v2) ∧ Below w.heap.size w wr) (fun _ i _ => n - (intOf i).toNat)
  case atStart => exact ⟨0, Nat.zero_le _, rfl, OwnL.empty _ _ _ HB1.out.size, HX1.out.alloc _, HB1.out.alloc HB1.out.size _⟩
  case round =>
    obtain ⟨j, hj, rfl, ho, hx, hbw⟩ := hrel
    have HO := Lib.hid ho
    have HX := Lib.hid hx
    have HB := Lib.hid hbw
    obtain ⟨-, -, -, -, -, -, -, -, d8, -, -, -⟩ := rcells52 hx
    clear ho hx hbw
    by_cases hlt : j < n
    · have hs := HH.out.below HB.out
      obtain ⟨b, off, l, rfl, hl, -⟩ := hs.at_ hlt
      have HR := Lib.hid (hs.row hl)
      have HT := Lib.hid (filt_take (f := fun l => ofB l.unit k && P52.pres F l.unit) hl)
      have hur := HU.out l (List.mem_iff_getElem?.2 ⟨j, hl⟩)
      have hul : ((F.s.h.take j).filter (fun l => ofB l.unit k && P52.pres F l.unit)).length ≤ j := Nat.le_trans (List.length_filter_le _ _) (List.length_take_le _ _)
      generalize (F.s.h.take j).filter (fun l => ofB l.unit k && P52.pres F l.unit) = us at HO HT hul
      clear hs hl
      go_upto_region 6 with (refine wpList_load_cells rfl 30 (.tmp 21) rfl ⟨b, off + j * 6, none⟩ rfl _ _ HR.out Tryz.underlying30 rfl hlenL ?_)
      obtain ⟨w4, g4, e1, e2, hb4, h4⟩ := boxes1 wr 30 (la l)
      unfold la at e1
      rw [e1, e2]
      have HB4 := Lib.hid (HB.out.trans (hb4.mono HB.out.size))
      have HO4 := Lib.hid (HO.out.below hb4)
      have HX4 := Lib.hid (HX.out.below hb4)
      have HL4 := Lib.hid h4
      obtain ⟨a0, -, -, -, -, -⟩ := lcells h4
      obtain ⟨c0, c1, c2, c3, c4, c5, c6, c7, c8, c9, c10, c11⟩ := rcells52 HX4.out
      obtain ⟨A3, c3', rfl, -, -⟩ := HO4.out.cells
      clear e1 e2 hb4 h4 d8
      cases hof : ofB l.unit k
      · have HOF := Lib.hid (show ∀ W, Calls Tryz.prog 61 #[.int .i64 l.unit, .int .i64 k] W fun e w' => e = .returned (.bool false) ∧ W = w' from fun W => by have h := roOf l.unit k hur W; rwa [hof] at h)
        have HSK := Lib.hid (show (F.s.h.take (j + 1)).filter (fun l => ofB l.unit k && P52.pres F l.unit) = us from by rw [HT.out, if_neg (by rw [hof]; simp)])
        clear hof
        go_wp2_with (go_at_call 61; refine (HOF.out _).mono ?_; rintro e w5 ⟨rfl, rfl⟩)
        go_roundw
        case rel => exact ⟨j + 1, by omega, by go_num, by rw [HSK.out]; exact HO4.out, HX4.out, HB4.out⟩
        case measure => simp [intOf]; omega
      · have HOF := Lib.hid (show ∀ W, Calls Tryz.prog 61 #[.int .i64 l.unit, .int .i64 k] W fun e w' => e = .returned (.bool true) ∧ W = w' from fun W => by have h := roOf l.unit k hur W; rwa [hof] at h)
        cases hpr : P52.pres F l.unit
        · have HPR := Lib.hid (show ∀ W, Calls Tryz.prog 62 #[.agg (rcs F (.slice (some ⟨b, off, none⟩) n c) v2), .int .i64 l.unit] W fun e w' => e = .returned (.bool false) ∧ Below W.heap.size W w' from fun W => by have h := roPresent F (.slice (some ⟨b, off, none⟩) n c) v2 l.unit hur W; rwa [hpr] at h)
          have HSK := Lib.hid (show (F.s.h.take (j + 1)).filter (fun l => ofB l.unit k && P52.pres F l.unit) = us from by rw [HT.out, if_neg (by rw [hof, hpr]; simp)])
          clear hof hpr
          go_wp2_with (first | (go_at_call 61; refine (HOF.out _).mono ?_; rintro e w5 ⟨rfl, rfl⟩) | (go_at_call 62; refine (HPR.out _).mono ?_; rintro e w6 ⟨rfl, hb6⟩; have HB6 := Lib.hid (HB4.out.trans (hb6.mono HB4.out.size)); have HO6 := Lib.hid (HO4.out.below hb6); have HX6 := Lib.hid (HX4.out.below hb6); clear hb6))
          go_roundw
          case rel => exact ⟨j + 1, by omega, by go_num, by rw [HSK.out]; exact HO6.out, HX6.out, HB6.out⟩
          case measure => simp [intOf]; omega
        · have HPR := Lib.hid (show ∀ W, Calls Tryz.prog 62 #[.agg (rcs F (.slice (some ⟨b, off, none⟩) n c) v2), .int .i64 l.unit] W fun e w' => e = .returned (.bool true) ∧ Below W.heap.size W w' from fun W => by have h := roPresent F (.slice (some ⟨b, off, none⟩) n c) v2 l.unit hur W; rwa [hpr] at h)
          have HSK := Lib.hid (show (F.s.h.take (j + 1)).filter (fun l => ofB l.unit k && P52.pres F l.unit) = us ++ [l] from by rw [HT.out, if_pos (by rw [hof, hpr]; rfl)])
          clear hof hpr
          go_wp2_with (first | (go_at_call 61; refine (HOF.out _).mono ?_; rintro e w5 ⟨rfl, rfl⟩) | (go_at_call 62; refine (HPR.out _).mono ?_; rintro e w6 ⟨rfl, hb6⟩; have HB6 := Lib.hid (HB4.out.trans (hb6.mono HB4.out.size)); have HO6 := Lib.hid (HO4.out.below hb6); have HX6 := Lib.hid (HX4.out.below hb6); have hr6 := (HL4.out.below hb6).add; unfold la at hr6; have HR6 := Lib.hid hr6; clear hb6 hr6) | (refine wpList_load_cells rfl 30 (.tmp 7) rfl ⟨g4, 0, none⟩ rfl _ _ HR6.out Tryz.underlying30 rfl hlenL ?_) | (at_builtin; refine wpList_append_lock rfl (.tmp 33) (.tmp 35) _ rfl w.heap.size 30 i0 _ 64 Tryz.underlying41 HI.out HZ0.out HZ1.out HZ2.out rfl (by omega) _ us rfl (HO6.out.alloc _) l w6.heap.size 0 1 rfl (LocksAt.lit1 w6 _ l) (by omega) (by have h := HB6.out.size; simp; omega) ?_; intro v7 w7 hown7 hg7 hat7 _; have HO7 := Lib.hid hown7; have HB7 := Lib.hid ((HB6.out.alloc HB6.out.size _).grown hg7 (by have h := HB6.out.size; rw [World.size_alloc]; omega) (fun z hz => (HO6.out.lt z hz).1)); have HX7 := Lib.hid ((HX6.out.alloc _).grown hg7 (fun e => own_ne HO6.out HX6.out (by decide) e.symm)); clear hown7 hg7 hat7))
          go_roundw
          case rel => exact ⟨j + 1, by omega, by go_num, by rw [HSK.out]; exact HO7.out, HX7.out, HB7.out⟩
          case measure => simp [intOf]; omega
    · have hjn : j = n := by omega
      subst hjn
      go_wp2
      go_ret
      refine ⟨_, rfl, ?_, HB.out⟩
      have ho := HO.out
      rw [List.take_of_length_le (by rw [HLN.out]; exact Nat.le_refl _), ← HDEF.out] at ho
      exact ho
end Go.Proofs.YtjklhiifjnmedaaGreat
namespace Go.Proofs.YtjklhiifjnmedaaGreat
open Go.RowKit P16 P46
attribute [local go_sem] ByteArray.mk_append_mk ByteArray.extract_mk mk_index

theorem classes_two (l : Lock) : (∃ c, P52.classesL l = [c] ∧ 0 ≤ c ∧ c < 16) ∨ P52.classesL l = (List.range 16).map Int.ofNat := by
  unfold P52.classesL P52.classesP
  split
  · exact .inl ⟨_, rfl, P52.cls1_le _ _⟩
  · exact .inr rfl
theorem meets_all {a b : Lock} (h : P52.classesL a = (List.range 16).map Int.ofNat) : P52.meets a b = true := by
  unfold P52.meets
  rw [h, List.any_eq_true]
  rcases classes_two b with ⟨c, hc, h0, h1⟩ | hb
  · exact ⟨c, List.mem_map.2 ⟨c.toNat, List.mem_range.2 (by omega), by simp; omega⟩, by rw [hc]; simp⟩
  · exact ⟨0, List.mem_map.2 ⟨0, List.mem_range.2 (by omega), rfl⟩, by rw [hb]; decide⟩
theorem meets_comm (a b : Lock) : P52.meets a b = P52.meets b a := by
  have key : ∀ a b : Lock, P52.meets a b = true → P52.meets b a = true := by
    intro a b h
    unfold P52.meets at h ⊢
    rw [List.any_eq_true] at h ⊢
    obtain ⟨c, h1, h2⟩ := h
    exact ⟨c, by simpa using h2, by simpa using h1⟩
  rw [Bool.eq_iff_iff]
  exact ⟨key a b, key b a⟩
theorem meets_one {a b : Lock} {x y : Int} (ha : P52.classesL a = [x]) (hb : P52.classesL b = [y]) : P52.meets a b = (x == y) := by
  unfold P52.meets
  rw [ha, hb]
  rw [Bool.eq_iff_iff]
  simp
set_option maxRecDepth 100000 in
set_option maxHeartbeats 4000000 in
theorem roMeet (a b : Lock) (ha : LockIn a) (hb : LockIn b) (w : World) : Calls Tryz.prog 98 #[lv a, lv b] w fun e w' => e = .returned (.bool (P52.meets a b)) ∧ Below w.heap.size w w' := by
  have HLA := Lib.hid ha
  have HLB := Lib.hid hb
  clear ha hb
  unfold lv
  go_enter Tryz.func98, Tryz.ntmps98
  go_upto_region 1 with (fail)
  obtain ⟨w2, p, q, e1, e2, e3, hb, h1, h2⟩ := boxes2 w 30 #[.int .i64 a.unit, .int .i64 a.id, .string ⟨a.r.low.toArray⟩, .string ⟨a.r.high.toArray⟩, .bool a.r.e, .bool a.x] #[.int .i64 b.unit, .int .i64 b.id, .string ⟨b.r.low.toArray⟩, .string ⟨b.r.high.toArray⟩, .bool b.r.e, .bool b.x]
  rw [e1, e3, e2]
  have HB := Lib.hid hb
  have HP := Lib.hid h1
  have HQ := Lib.hid h2
  obtain ⟨a0, a1, a2, a3, a4, a5⟩ := lcells h1
  obtain ⟨b0, b1, b2, b3, b4, b5⟩ := lcells h2
  clear e1 e2 e3 hb h1 h2
  have CC := Lib.hid (show ∀ l : Lock, LockIn l → ∀ W, Calls Tryz.prog 121 #[.agg #[.int .i64 l.unit, .int .i64 l.id, .string ⟨l.r.low.toArray⟩, .string ⟨l.r.high.toArray⟩, .bool l.r.e, .bool l.x]] W fun e w' => ∃ v, e = .returned v ∧ OwnI w' W.heap.size v (P52.classesL l) ∧ Below W.heap.size W w' from fun l hl W => refClasses l hl W)
  go_cut [5, 6] (fun s5 s6 wx => ∃ A1 c1 A2 c2, s5 = .slice A1 (P52.classesL a).length c1 ∧ s6 = .slice A2 (P52.classesL b).length c2 ∧ IntsAt wx A1 (P52.classesL a).length (P52.classesL a) ∧ IntsAt wx A2 (P52.classesL b).length (P52.classesL b) ∧ Below w2.heap.size w2 wx)
  case first =>
    go_region_with (go_at_call 121; first
      | (have HQQ := HB1; refine (CC.out _ (by first | exact HLA.out | exact HLB.out) wa).mono ?_; rintro e wb ⟨vb, rfl, hob, hbb⟩; have HB2 := Lib.hid (HB1.out.trans (hbb.mono HB1.out.size)); obtain ⟨Ab, cb, rfl, hsb, -⟩ := hob.cells; have HOB := Lib.hid hsb; have HOA2 := Lib.hid (HOA.out.below hbb); clear hob hbb hsb)
      | (refine (CC.out _ (by first | exact HLA.out | exact HLB.out) (w2.drewN 1)).mono ?_; rintro e wa ⟨va, rfl, hoa, hba⟩; have HB1 := Lib.hid ((below_drewN (Below.refl w2.heap.size w2) 1).trans hba); obtain ⟨Aa, ca, rfl, hsa, -⟩ := hoa.cells; have HOA := Lib.hid hsa; have HPP := lcells (HP.out.below HB1.out); have HQQ := lcells (HQ.out.below HB1.out); obtain ⟨d0, d1, d2, d3, d4, d5⟩ := HPP; obtain ⟨f0, f1, f2, f3, f4, f5⟩ := HQQ; clear hoa hba hsa))
    all_goals (go_wp2; go_meet)
    all_goals first
      | (case rel => exact ⟨_, _, _, _, rfl, rfl, HOA2.out, HOB.out, HB2.out⟩)
      | (case rel => exact ⟨_, _, _, _, rfl, rfl, HOB.out, HOA2.out, HB2.out⟩)
  case rest =>
    obtain ⟨A1, c1, A2, c2, rfl, rfl, hi1, hi2, hbx⟩ := hcut
    have HBX := Lib.hid (below_then HB.out hbx)
    have HI1 := Lib.hid hi1
    have HI2 := Lib.hid hi2
    clear hi1 hi2 hbx a0 a1 a2 a3 a4 a5 b0 b1 b2 b3 b4 b5
    -- HERE
    rcases classes_two a with ⟨x, hca, -, -⟩ | hca
    · rcases classes_two b with ⟨y, hcb, -, -⟩ | hcb
      · have h1 := HI1.out
        have h2 := HI2.out
        rw [hca] at h1
        rw [hcb] at h2
        obtain ⟨b1, o1, x1, rfl, hx1, d1⟩ := h1.at_ (k := 0) (by simp)
        obtain ⟨b2, o2, x2, rfl, hx2, d2⟩ := h2.at_ (k := 0) (by simp)
        obtain rfl : x = x1 := by simpa using hx1
        obtain rfl : y = x2 := by simpa using hx2
        have hl1 : (P52.classesL a).length = 1 := by rw [hca]; rfl
        have hl2 : (P52.classesL b).length = 1 := by rw [hcb]; rfl
        have HM := Lib.hid (meets_one hca hcb)
        rw [hl1, hl2]
        clear hx1 hx2 h1 h2 hca hcb hl1 hl2
        rw [show o1 + 0 = o1 from rfl] at d1
        rw [show o2 + 0 = o2 from rfl] at d2
        go_upto_region 2 with (fail)
        go_quiet (fail)
        try go_wp2
        go_ret
        rw [HM.out]
        exact ⟨rfl, HBX.out.trans ((below_drewN (Below.refl wc.heap.size wc) nq).mono HBX.out.size)⟩
      · have hl2 : (P52.classesL b).length = 16 := by rw [hcb]; rfl
        have hl1 : (P52.classesL a).length = 1 := by rw [hca]; rfl
        have HM := Lib.hid (show P52.meets a b = true from by rw [meets_comm]; exact meets_all hcb)
        rw [hl1, hl2]
        clear hca hcb hl1 hl2
        go_upto_region 2 with (fail)
        go_quiet (fail)
        try go_wp2
        go_ret
        rw [HM.out]
        exact ⟨rfl, HBX.out.trans ((below_drewN (Below.refl wc.heap.size wc) nq).mono HBX.out.size)⟩
    · have hl1 : (P52.classesL a).length = 16 := by rw [hca]; rfl
      have HM := Lib.hid (show P52.meets a b = true from meets_all hca)
      rw [hl1]
      clear hca hl1
      go_upto_region 2 with (fail)
      go_quiet (fail)
      try go_wp2
      go_ret
      rw [HM.out]
      exact ⟨rfl, HBX.out.trans ((below_drewN (Below.refl wc.heap.size wc) nq).mono HBX.out.size)⟩
end Go.Proofs.YtjklhiifjnmedaaGreat
namespace Go.Proofs.YtjklhiifjnmedaaGreat
open Go.RowKit P16 P46
attribute [local go_sem] ByteArray.mk_append_mk ByteArray.extract_mk mk_index
attribute [local irreducible] wpQuiet

theorem rcells52l {w : World} {g : Nat} {t : TypeId} {F : P52.Fs} {v1 v2 : Value} (h : Blk w g t (rcs F v1 v2)) : w.cell? ⟨g, 8, none⟩ = some v1 ∧ w.cell? ⟨g, 9, none⟩ = some v2 :=
  ⟨h.cell 8, h.cell 9⟩
/-- Another system than that of l has an interest in a class of l. -/
def hitB (y l : Lock) : Bool := !ofB y.unit (P52.sysOf l.unit) && P52.meets y l
theorem alone_hit {all : List Lock} {l : Lock} (h : P52.sysOf l.unit ≠ 0) : P52.aloneB all l (P52.sysOf l.unit) = all.all fun y => !hitB y l := by
  unfold P52.aloneB
  congr 1
  funext y
  unfold hitB ofB
  rw [meets_comm y l]
  by_cases e : P52.sysOf y.unit = P52.sysOf l.unit
  · simp [e, h]
  · simp [e]
theorem valid_unit {l : Lock} (h : validL l = true) : numB l.unit = true := by
  unfold validL at h
  simp only [Bool.and_eq_true] at h
  exact h.1.1.1.1
set_option maxRecDepth 100000 in
set_option maxHeartbeats 8000000 in
theorem roAlone (F : P52.Fs) (A1 A2 : Option Addr) (n1 n2 c1 c2 : Nat) (l : Lock) (w : World) (h1 : LocksAt w A1 n1 F.s.h) (h2 : LocksAt w A2 n2 F.s.q) (hz2 : A2 = none → n2 = 0) (hn : n1 + n2 ≤ 90000) (hl : validL l = true) (hk0 : P52.sysOf l.unit ≠ 0) (hv : ∀ x ∈ F.s.h ++ F.s.q, validL x = true) :
    Calls Tryz.prog 67 #[.agg (rcs F (.slice A1 n1 c1) (.slice A2 n2 c2)), lv l] w fun e w' => e = .returned (.bool (P52.aloneB (F.s.h ++ F.s.q) l (P52.sysOf l.unit))) ∧ Below w.heap.size w w' := by
  have HK0 := Lib.hid hk0
  have HV := Lib.hid hv
  have HVL := Lib.hid hl
  have HN2 := Lib.hid hz2
  have HLA := Lib.hid (LockIn.of_valid hl)
  have HC := Lib.hid (fun W => roParts l.unit (InR.num (valid_unit hl)) W)
  clear hk0 hv hz2 hl
  obtain ⟨i0, hi0, hz0, hz1, hz2⟩ := info_parts infoL
  have HI := Lib.hid hi0
  have HZ0 := Lib.hid hz0
  have HZ1 := Lib.hid hz1
  have HZ2 := Lib.hid hz2
  clear hi0 hz0 hz1 hz2
  have hlenL : (Tryz.prog.info? 30).map (·.size) = some 6 := by kernel_rfl
  unfold rcs lv
  go_enter Tryz.func67, Tryz.ntmps67
  go_upto_region 1 with (fail)
  obtain ⟨w2, p, q, e1, e2, e3, hb, h3, h4⟩ := boxesT w 55 30 (rcs F (.slice A1 n1 c1) (.slice A2 n2 c2)) #[.int .i64 l.unit, .int .i64 l.id, .string ⟨l.r.low.toArray⟩, .string ⟨l.r.high.toArray⟩, .bool l.r.e, .bool l.x]
  unfold rcs at e1
  rw [e1, e3, e2]
  have HB := Lib.hid hb
  have HP := Lib.hid h3
  have HQ := Lib.hid h4
  obtain ⟨d8, d9⟩ := rcells52l h3
  have D8 := Lib.hid d8
  have D9 := Lib.hid d9
  have HH := Lib.hid (h1.below hb)
  have HQU := Lib.hid (h2.below hb)
  obtain ⟨b0, -, -, -, -, -⟩ := lcells h4
  clear e1 e2 e3 hb h3 h4 d8 d9 h1 h2
  go_upto_region 2 with (go_at_call 66; refine (HC.out _).mono ?_; rintro e w2 ⟨rfl, rfl⟩)
  clear b0
  refine wp_region_kill 5 9 (by kernel_rfl) (by kernel_rfl) (fun i => match i with | 0 => some 8 | 4 => some 8 | _ => none) (RK w2.heap.size 8) (fun w1 => Below w2.heap.size w2 w1)
    (fun i v w1 => match i with
      | 0 => EmptyAt w1 w2.heap.size 30 v
      | 1 => v = .pointer (some ⟨p, 8, none⟩)
      | 2 => v = .pointer (some ⟨p, 8, none⟩)
      | 3 => v = .slice A1 n1 c1
      | 4 => RowAt w1 w2.heap.size 30 6 n1 (lcs F.s.h) v
      | 5 => v = .pointer (some ⟨p, 8, none⟩)
      | 6 => v = .pointer (some ⟨p, 9, none⟩)
      | 7 => v = .slice A2 n2 c2
      | 8 => RowAt w1 w2.heap.size 30 6 (n1 + n2) (lcs F.s.h ++ lcs F.s.q) v
      | _ => True) (fun _ _ _ h1 h2 => RK.keep h1 h2) ?_ ((Below.refl _ _).drew) ?_ ?_
  · intro kk ii vv w1 w2 hik hk hf hR
    match ii, hik, hk, hf with
    | 0, _, hk, hf => exact EmptyAt.below hf (RK.at_ hR (fun e => hk (by subst e; rfl)))
    | 1, _, _, hf => exact hf
    | 2, _, _, hf => exact hf
    | 3, _, _, hf => exact hf
    | 4, _, hk, hf => exact RowAt.below hf (RK.at_ hR (fun e => hk (by subst e; rfl)))
    | 5, _, _, hf => exact hf
    | 6, _, _, hf => exact hf
    | 7, _, _, hf => exact hf
    | 8, hik, _, hf => exact RowAt.below hf (RK.at_ hR (Ne.symm hik))
    | n + 9, _, _, _ => trivial
  · refine allOps_cons ?_ (allOps_cons ?_ (allOps_cons ?_ (allOps_cons ?_ (allOps_cons ?_ (allOps_cons ?_ (allOps_cons ?_ (allOps_cons ?_ (allOps_cons ?_ allOps_nil))))))))
    · intro u w1 hC hd K hK
      simp only [List.take_succ_cons, List.take_zero, putAll, Act.put, List.setIfInBounds_toArray, List.set_cons_succ, List.set_cons_zero, Nat.zero_add, Nat.reduceAdd] at hK ⊢
      go_simp
      exact hK _ _ (RK.below (below_alloc (Below.refl _ _) _) (by decide)) (EmptyAt.new _ _ hC.size)
    · intro u w1 hC hd K hK
      simp only [List.take_succ_cons, List.take_zero, putAll, Act.put, List.setIfInBounds_toArray, List.set_cons_succ, List.set_cons_zero, Nat.zero_add, Nat.reduceAdd] at hK ⊢
      go_simp
      exact hK _ _ (RK.same (by decide)) rfl
    · intro u w1 hC hd K hK
      have h1 : u 1 = .pointer (some ⟨p, 8, none⟩) := hd 1 rfl rfl
      simp only [List.take_succ_cons, List.take_zero, putAll, Act.put, List.setIfInBounds_toArray, List.set_cons_succ, List.set_cons_zero, Nat.zero_add, Nat.reduceAdd, h1] at hK ⊢
      go_simp
      exact hK _ _ (RK.same (by decide)) rfl
    · intro u w1 hC hd K hK
      have h2 : u 2 = .pointer (some ⟨p, 8, none⟩) := hd 2 rfl rfl
      have hc1 : w1.cell? ⟨p, 8, none⟩ = some (.slice A1 n1 c1) := by rw [hC.cell (p := ⟨p, 8, none⟩) (World.block_lt_of_cell? w2 _ D8.out)]; exact D8.out
      simp only [List.take_succ_cons, List.take_zero, putAll, Act.put, List.setIfInBounds_toArray, List.set_cons_succ, List.set_cons_zero, Nat.zero_add, Nat.reduceAdd, h2] at hK ⊢
      go_simp
      exact hK _ _ (RK.same (by decide)) rfl
    · intro u w1 hC hd K hK
      have h3 : u 3 = .slice A1 n1 c1 := hd 3 rfl rfl
      obtain ⟨g, hg0, hg1, hg2⟩ := hd 0 rfl rfl
      simp only [List.take_succ_cons, List.take_zero, putAll, Act.put, List.setIfInBounds_toArray, List.set_cons_succ, List.set_cons_zero, Nat.zero_add, Nat.reduceAdd, h3] at hK ⊢
      rw [if_pos (show Region.wanted _ _ = true from rfl)]
      refine wp_append_empty w1 (.tmp 15) (.tmp 18) 41 rfl 30 i0 _ 6 64 Tryz.underlying41 HI.out HZ0.out HZ1.out HZ2.out rfl (by omega) g w2.heap.size hg0 hg1 hg2 A1 n1 c1 _ rfl (HH.out.below hC) (lcs_one _) (by unfold maxLen; omega) (by omega) ?_
      intro v' w3 hown2 hb2
      exact hK v' w3 (RK.below hb2 (by decide)) hown2
    · intro u w1 hC hd K hK
      simp only [List.take_succ_cons, List.take_zero, putAll, Act.put, List.setIfInBounds_toArray, List.set_cons_succ, List.set_cons_zero, Nat.zero_add, Nat.reduceAdd] at hK ⊢
      go_simp
      exact hK _ _ (RK.same (by decide)) rfl
    · intro u w1 hC hd K hK
      have h5 : u 5 = .pointer (some ⟨p, 8, none⟩) := hd 5 rfl rfl
      simp only [List.take_succ_cons, List.take_zero, putAll, Act.put, List.setIfInBounds_toArray, List.set_cons_succ, List.set_cons_zero, Nat.zero_add, Nat.reduceAdd, h5] at hK ⊢
      go_simp
      exact hK _ _ (RK.same (by decide)) rfl
    · intro u w1 hC hd K hK
      have h6 : u 6 = .pointer (some ⟨p, 9, none⟩) := hd 6 rfl rfl
      have hc1 : w1.cell? ⟨p, 9, none⟩ = some (.slice A2 n2 c2) := by rw [hC.cell (p := ⟨p, 9, none⟩) (World.block_lt_of_cell? w2 _ D9.out)]; exact D9.out
      simp only [List.take_succ_cons, List.take_zero, putAll, Act.put, List.setIfInBounds_toArray, List.set_cons_succ, List.set_cons_zero, Nat.zero_add, Nat.reduceAdd, h6] at hK ⊢
      go_simp
      exact hK _ _ (RK.same (by decide)) rfl
    · intro u w1 hC hd K hK
      have h7 : u 7 = .slice A2 n2 c2 := hd 7 rfl rfl
      have h4 : RowAt w1 w2.heap.size 30 6 n1 (lcs F.s.h) (u 4) := hd 4 rfl rfl
      simp only [List.take_succ_cons, List.take_zero, putAll, Act.put, List.setIfInBounds_toArray, List.set_cons_succ, List.set_cons_zero, Nat.zero_add, Nat.reduceAdd, h7] at hK ⊢
      rw [if_pos (show Region.wanted _ _ = true from rfl)]
      refine wp_append_own (.tmp 19) (.tmp 22) 41 rfl w2.heap.size 30 i0 _ 6 64 Tryz.underlying41 HI.out HZ0.out HZ1.out HZ2.out rfl (by omega) (u 4) n1 _ rfl h4 A2 n2 c2 (lcs F.s.q) rfl HN2.out (HQU.out.below hC) (lcs_one _) (by unfold maxLen; omega) (by omega) hC.size ?_
      intro v' w3 hr hg
      exact hK v' w3 (RK.grown hg (row_base h4)) hr
  · intro u wt hC hf
    have h8 : RowAt wt w2.heap.size 30 6 (n1 + n2) (lcs F.s.h ++ lcs F.s.q) (u 8) := hf 8 (by omega) rfl
    have HC := Lib.hid hC
    have HO10 := Lib.hid (OwnL.of_row (C := w.heap.size) (ls := F.s.h ++ F.s.q) (by rw [lcs_append]; exact h8) (by rw [List.length_append, HH.out.len, HQU.out.len]) HB.out.size)
    obtain ⟨A3, c3, hv8, hs8, -⟩ := HO10.out.cells
    have HS8 := Lib.hid hs8
    simp only [List.take_succ_cons, List.take_zero, List.drop_succ_cons, List.drop_zero, putAll, Act.put, List.setIfInBounds_toArray, List.set_cons_succ, List.set_cons_zero, Nat.zero_add, Nat.reduceAdd, hv8]
    have HBT := Lib.hid (HB.out.trans (HC.out.mono HB.out.size))
    have HQT := Lib.hid (HQ.out.below HC.out)
    have hlen : (F.s.h ++ F.s.q).length ≤ 90000 := by rw [List.length_append, HH.out.len, HQU.out.len]; exact hn
    clear hC hf h8 hv8 hs8 HC HO10 HP HQ HB
    generalize hall : F.s.h ++ F.s.q = all at *
    have HALL := Lib.hid hall
    clear hall
    obtain ⟨n, hnn⟩ : ∃ n, all.length = n := ⟨_, rfl⟩
    have HNN := Lib.hid hnn
    rw [hnn] at hlen ⊢
    clear hnn
    go_wp2
    -- LOOP
    go_loopw [8] (fun i wr => ∃ k : Nat, k ≤ n ∧ i = .int .i64 k ∧ Hid (∀ (j : Nat), j < k → ∀ y : Lock, all[j]? = some y → hitB y l = false) ∧ Below wt.heap.size wt wr) (fun i _ => n - (intOf i).toNat)
    case atStart => exact ⟨0, Nat.zero_le _, rfl, fun j hj => absurd hj (by omega), Below.refl _ _⟩
    case round =>
      obtain ⟨k, hk, rfl, hnot, hbw⟩ := hrel
      have HBW := Lib.hid hbw
      have HNOT := Lib.hid hnot.out
      clear hbw hnot
      by_cases hlt : k < n
      · have hs := HS8.out.below HBW.out
        rw [HNN.out] at hs
        obtain ⟨b, off, y, rfl, hy, -⟩ := hs.at_ hlt
        have HY := Lib.hid hy
        have HR := Lib.hid (hs.row hy)
        have hr := hs.row hy
        have a0 : wr.cell? ⟨b, off + k * 6, none⟩ = some (.int .i64 y.unit) := hr 0 _ rfl
        have a1 : wr.cell? ⟨b, off + k * 6 + 1, none⟩ = some (.int .i64 y.id) := hr 1 _ rfl
        have a2 : wr.cell? ⟨b, off + k * 6 + 2, none⟩ = some (.string ⟨y.r.low.toArray⟩) := hr 2 _ rfl
        have a3 : wr.cell? ⟨b, off + k * 6 + 3, none⟩ = some (.string ⟨y.r.high.toArray⟩) := hr 3 _ rfl
        have a4 : wr.cell? ⟨b, off + k * 6 + 4, none⟩ = some (.bool y.r.e) := hr 4 _ rfl
        have a5 : wr.cell? ⟨b, off + k * 6 + 5, none⟩ = some (.bool y.x) := hr 5 _ rfl
        obtain ⟨q0, q1, q2, q3, q4, q5⟩ := lcells (HQT.out.below HBW.out)
        have hvy := HV.out y (List.mem_iff_getElem?.2 ⟨k, hy⟩)
        have HVY := Lib.hid hvy
        have hur := InR.num (valid_unit hvy)
        have HQW := Lib.hid (HQT.out.below HBW.out)
        have k0 : (0 : Int) ≤ (k : Int) := by omega
        have k1 : (k : Int) < (n : Int) := by omega
        clear hs hy hr hvy
        cases hof : ofB y.unit (P52.sysOf l.unit)
        · have HOF := Lib.hid (show ∀ W, Calls Tryz.prog 61 #[.int .i64 y.unit, .int .i64 (P52.sysOf l.unit)] W fun e w' => e = .returned (.bool false) ∧ W = w' from fun W => by have h := roOf y.unit (P52.sysOf l.unit) hur W; rwa [hof] at h)
          have HHB := Lib.hid (show hitB y l = P52.meets y l from by unfold hitB; rw [hof]; rfl)
          clear hof
          go_upto_region 6 with (fail)
          go_cut [45] (fun s wx => s = .bool (P52.meets y l) ∧ Below wr.heap.size wr wx)
          case first =>
            -- MEET
            go_region_with (first | (go_at_call 61; refine (HOF.out _).mono ?_; rintro e w5 ⟨rfl, rfl⟩) | (go_at_call 98; refine (roMeet y l (LockIn.of_valid HVY.out) HLA.out _).mono ?_; rintro e w6 ⟨rfl, hb6⟩; have HB6 := Lib.hid hb6; clear hb6))
            all_goals
              go_wp2
              go_meet
              case rel => exact ⟨rfl, by first | exact HB6.out | exact (below_drewN (Below.refl _ wr) _).trans HB6.out⟩
          case rest =>
            obtain ⟨rfl, hbc⟩ := hcut
            have HBC := Lib.hid (HBW.out.trans (hbc.mono HBW.out.size))
            clear hbc a0 a1 a2 a3 a4 a5 q0 q1 q2 q3 q4 q5
            cases hm : P52.meets y l
            · have HM := Lib.hid (show hitB y l = false from by rw [HHB.out, hm])
              clear hm
              go_wp2
              go_roundw
              case rel =>
                refine ⟨k + 1, by omega, by go_num, ?_, HBC.out⟩
                intro j hj z hz
                by_cases hjk : j = k
                · subst hjk
                  rw [HY.out] at hz
                  obtain rfl := Option.some.inj hz
                  exact HM.out
                · exact HNOT.out j (by omega) z hz
              case measure => simp [intOf]; omega
            · have HM := Lib.hid (show hitB y l = true from by rw [HHB.out, hm])
              clear hm
              go_wp2
              go_ret
              rw [HALL.out]
              exact ⟨retBool (show false = P52.aloneB all l (P52.sysOf l.unit) from by
                rw [alone_hit HK0.out]
                exact (List.all_eq_false.2 ⟨y, List.mem_iff_getElem?.2 ⟨k, HY.out⟩, by rw [HM.out]; decide⟩).symm), HBT.out.trans (HBC.out.mono HBT.out.size)⟩
        · have HOF := Lib.hid (show ∀ W, Calls Tryz.prog 61 #[.int .i64 y.unit, .int .i64 (P52.sysOf l.unit)] W fun e w' => e = .returned (.bool true) ∧ W = w' from fun W => by have h := roOf y.unit (P52.sysOf l.unit) hur W; rwa [hof] at h)
          have HM := Lib.hid (show hitB y l = false from by unfold hitB; rw [hof]; rfl)
          clear hof
          go_upto_region 6 with (fail)
          clear a1 a2 a3 a4 a5 q0 q1 q2 q3 q4 q5
          go_quiet ((go_at_call 61; exact Calls.quiet_of_same ((HOF.out _).mono fun _ _ h => ⟨h.1, h.2.symm⟩)))
          have HBQ := Lib.hid (HBW.out.trans ((below_drewN (Below.refl wr.heap.size wr) nq).mono HBW.out.size))
          generalize wr.drewN nq = w6 at HBQ ⊢
          clear a0
          go_wp2
          go_roundw
          case rel =>
            refine ⟨k + 1, by omega, by go_num, ?_, HBQ.out⟩
            intro j hj z hz
            by_cases hjk : j = k
            · subst hjk
              rw [HY.out] at hz
              obtain rfl := Option.some.inj hz
              exact HM.out
            · exact HNOT.out j (by omega) z hz
          case measure => simp [intOf]; omega
      · have hkn : k = n := by omega
        subst hkn
        have HO := Lib.hid (show P52.aloneB all l (P52.sysOf l.unit) = true from by
          rw [alone_hit HK0.out, List.all_eq_true]
          intro y hy
          obtain ⟨j, hj⟩ := List.mem_iff_getElem?.1 hy
          have hj2 := (List.getElem?_eq_some_iff.1 hj).1
          rw [HNOT.out j (by rw [HNN.out] at hj2; exact hj2) y hj]
          rfl)
        go_wp2
        go_ret
        rw [HALL.out, HO.out]
        exact ⟨rfl, HBT.out.trans (HBW.out.mono HBT.out.size)⟩
end Go.Proofs.YtjklhiifjnmedaaGreat
namespace Go.Proofs.YtjklhiifjnmedaaGreat
open Go.RowKit P16 P46
attribute [local go_sem] ByteArray.mk_append_mk ByteArray.extract_mk mk_index

set_option maxRecDepth 100000 in
set_option maxHeartbeats 8000000 in
theorem roConnect (F : P52.Fs) (A1 A2 : Option Addr) (n1 n2 c1 c2 : Nat) (k e : Int) (hk : InR k) (he : InR e) (w : World) :
    Calls Tryz.prog 24 #[.agg (rcs F (.slice A1 n1 c1) (.slice A2 n2 c2)), .int .i64 k, .int .i64 e] w fun en w' => en = .returned (.tuple #[.agg (rcs (P52.connect F k e).1 (.slice A1 n1 c1) (.slice A2 n2 c2)), .int .i64 (P52.connect F k e).2]) ∧ Below w.heap.size w w' := by
  have HKE := Lib.hid (And.intro hk he)
  clear hk he
  by_cases h1 : k < 1
  · have HP := Lib.hid (show P52.connect F k e = (F, 2) from by unfold P52.connect; rw [if_pos (by unfold P52.okS; simp; omega)])
    unfold rcs
    go_enter Tryz.func24, Tryz.ntmps24
    go_wp2
    rw [HP.out]
    refine bodyPost_ret (v := .tuple #[.agg (rcs F (.slice A1 n1 c1) (.slice A2 n2 c2)), .int .i64 2]) (by simp [results, Tryz.results24, go_sem, rcs]) rfl ⟨rfl, below_alloc (below_alloc (Below.refl _ _) _) _⟩
  by_cases h2 : 4 < k
  · have HP := Lib.hid (show P52.connect F k e = (F, 2) from by unfold P52.connect; rw [if_pos (by unfold P52.okS; simp; omega)])
    unfold rcs
    go_enter Tryz.func24, Tryz.ntmps24
    go_wp2
    rw [HP.out]
    refine bodyPost_ret (v := .tuple #[.agg (rcs F (.slice A1 n1 c1) (.slice A2 n2 c2)), .int .i64 2]) (by simp [results, Tryz.results24, go_sem, rcs]) rfl ⟨rfl, below_alloc (below_alloc (Below.refl _ _) _) _⟩
  by_cases h3 : e < 1
  · have HP := Lib.hid (show P52.connect F k e = (F, 2) from by unfold P52.connect; rw [if_pos (by unfold P52.okS; simp; omega)])
    unfold rcs
    go_enter Tryz.func24, Tryz.ntmps24
    go_wp2
    rw [HP.out]
    refine bodyPost_ret (v := .tuple #[.agg (rcs F (.slice A1 n1 c1) (.slice A2 n2 c2)), .int .i64 2]) (by simp [results, Tryz.results24, go_sem, rcs]) rfl ⟨rfl, below_alloc (below_alloc (Below.refl _ _) _) _⟩
  by_cases h4 : 65535 < e
  · have HP := Lib.hid (show P52.connect F k e = (F, 2) from by unfold P52.connect; rw [if_pos (by unfold P52.okS; simp; omega)])
    unfold rcs
    go_enter Tryz.func24, Tryz.ntmps24
    go_wp2
    rw [HP.out]
    refine bodyPost_ret (v := .tuple #[.agg (rcs F (.slice A1 n1 c1) (.slice A2 n2 c2)), .int .i64 2]) (by simp [results, Tryz.results24, go_sem, rcs]) rfl ⟨rfl, below_alloc (below_alloc (Below.refl _ _) _) _⟩
  have hk4 : k = 1 ∨ k = 2 ∨ k = 3 ∨ k = 4 := by omega
  clear h1 h2
  rcases hk4 with rfl | rfl | rfl | rfl
  · cases hcn : F.cn 1
    · by_cases h5 : e ≤ F.ep 1
      · have HP := Lib.hid (show P52.connect F 1 e = (F, 13) from by unfold P52.connect; rw [if_neg (by unfold P52.okS; simp; omega), if_neg (by show ¬ F.cn 1 = true; simp [hcn]), if_pos (show e ≤ F.ep (Int.toNat 1) from h5)])
        unfold rcs
        go_enter Tryz.func24, Tryz.ntmps24
        go_wp2
        rw [HP.out]
        refine bodyPost_ret (v := .tuple #[.agg (rcs F (.slice A1 n1 c1) (.slice A2 n2 c2)), .int .i64 13]) (by simp [results, Tryz.results24, go_sem, rcs, hcn]) rfl ⟨rfl, below_alloc (below_alloc (Below.refl _ _) _) _⟩
      · have HP := Lib.hid (show P52.connect F 1 e = (⟨P52.setAt F.ep 1 e, P52.setAt F.cn 1 true, F.s, F.lost, F.fast⟩, 0) from by unfold P52.connect; rw [if_neg (by unfold P52.okS; simp; omega), if_neg (by show ¬ F.cn 1 = true; simp [hcn]), if_neg (show ¬ e ≤ F.ep (Int.toNat 1) from h5)]; rfl)
        unfold rcs
        go_enter Tryz.func24, Tryz.ntmps24
        go_wp2
        rw [HP.out]
        refine bodyPost_ret (v := .tuple #[.agg (rcs ⟨P52.setAt F.ep 1 e, P52.setAt F.cn 1 true, F.s, F.lost, F.fast⟩ (.slice A1 n1 c1) (.slice A2 n2 c2)), .int .i64 0]) (by simp [results, Tryz.results24, go_sem, rcs, P52.setAt]) rfl ⟨rfl, below_alloc (below_alloc (Below.refl _ _) _) _⟩
    · have HP := Lib.hid (show P52.connect F 1 e = (F, 9) from by unfold P52.connect; rw [if_neg (by unfold P52.okS; simp; omega), if_pos (by show F.cn 1 = true; exact hcn)])
      unfold rcs
      go_enter Tryz.func24, Tryz.ntmps24
      go_wp2
      rw [HP.out]
      refine bodyPost_ret (v := .tuple #[.agg (rcs F (.slice A1 n1 c1) (.slice A2 n2 c2)), .int .i64 9]) (by simp [results, Tryz.results24, go_sem, rcs, hcn]) rfl ⟨rfl, below_alloc (below_alloc (Below.refl _ _) _) _⟩
  · cases hcn : F.cn 2
    · by_cases h5 : e ≤ F.ep 2
      · have HP := Lib.hid (show P52.connect F 2 e = (F, 13) from by unfold P52.connect; rw [if_neg (by unfold P52.okS; simp; omega), if_neg (by show ¬ F.cn 2 = true; simp [hcn]), if_pos (show e ≤ F.ep (Int.toNat 2) from h5)])
        unfold rcs
        go_enter Tryz.func24, Tryz.ntmps24
        go_wp2
        rw [HP.out]
        refine bodyPost_ret (v := .tuple #[.agg (rcs F (.slice A1 n1 c1) (.slice A2 n2 c2)), .int .i64 13]) (by simp [results, Tryz.results24, go_sem, rcs, hcn]) rfl ⟨rfl, below_alloc (below_alloc (Below.refl _ _) _) _⟩
      · have HP := Lib.hid (show P52.connect F 2 e = (⟨P52.setAt F.ep 2 e, P52.setAt F.cn 2 true, F.s, F.lost, F.fast⟩, 0) from by unfold P52.connect; rw [if_neg (by unfold P52.okS; simp; omega), if_neg (by show ¬ F.cn 2 = true; simp [hcn]), if_neg (show ¬ e ≤ F.ep (Int.toNat 2) from h5)]; rfl)
        unfold rcs
        go_enter Tryz.func24, Tryz.ntmps24
        go_wp2
        rw [HP.out]
        refine bodyPost_ret (v := .tuple #[.agg (rcs ⟨P52.setAt F.ep 2 e, P52.setAt F.cn 2 true, F.s, F.lost, F.fast⟩ (.slice A1 n1 c1) (.slice A2 n2 c2)), .int .i64 0]) (by simp [results, Tryz.results24, go_sem, rcs, P52.setAt]) rfl ⟨rfl, below_alloc (below_alloc (Below.refl _ _) _) _⟩
    · have HP := Lib.hid (show P52.connect F 2 e = (F, 9) from by unfold P52.connect; rw [if_neg (by unfold P52.okS; simp; omega), if_pos (by show F.cn 2 = true; exact hcn)])
      unfold rcs
      go_enter Tryz.func24, Tryz.ntmps24
      go_wp2
      rw [HP.out]
      refine bodyPost_ret (v := .tuple #[.agg (rcs F (.slice A1 n1 c1) (.slice A2 n2 c2)), .int .i64 9]) (by simp [results, Tryz.results24, go_sem, rcs, hcn]) rfl ⟨rfl, below_alloc (below_alloc (Below.refl _ _) _) _⟩
  · cases hcn : F.cn 3
    · by_cases h5 : e ≤ F.ep 3
      · have HP := Lib.hid (show P52.connect F 3 e = (F, 13) from by unfold P52.connect; rw [if_neg (by unfold P52.okS; simp; omega), if_neg (by show ¬ F.cn 3 = true; simp [hcn]), if_pos (show e ≤ F.ep (Int.toNat 3) from h5)])
        unfold rcs
        go_enter Tryz.func24, Tryz.ntmps24
        go_wp2
        rw [HP.out]
        refine bodyPost_ret (v := .tuple #[.agg (rcs F (.slice A1 n1 c1) (.slice A2 n2 c2)), .int .i64 13]) (by simp [results, Tryz.results24, go_sem, rcs, hcn]) rfl ⟨rfl, below_alloc (below_alloc (Below.refl _ _) _) _⟩
      · have HP := Lib.hid (show P52.connect F 3 e = (⟨P52.setAt F.ep 3 e, P52.setAt F.cn 3 true, F.s, F.lost, F.fast⟩, 0) from by unfold P52.connect; rw [if_neg (by unfold P52.okS; simp; omega), if_neg (by show ¬ F.cn 3 = true; simp [hcn]), if_neg (show ¬ e ≤ F.ep (Int.toNat 3) from h5)]; rfl)
        unfold rcs
        go_enter Tryz.func24, Tryz.ntmps24
        go_wp2
        rw [HP.out]
        refine bodyPost_ret (v := .tuple #[.agg (rcs ⟨P52.setAt F.ep 3 e, P52.setAt F.cn 3 true, F.s, F.lost, F.fast⟩ (.slice A1 n1 c1) (.slice A2 n2 c2)), .int .i64 0]) (by simp [results, Tryz.results24, go_sem, rcs, P52.setAt]) rfl ⟨rfl, below_alloc (below_alloc (Below.refl _ _) _) _⟩
    · have HP := Lib.hid (show P52.connect F 3 e = (F, 9) from by unfold P52.connect; rw [if_neg (by unfold P52.okS; simp; omega), if_pos (by show F.cn 3 = true; exact hcn)])
      unfold rcs
      go_enter Tryz.func24, Tryz.ntmps24
      go_wp2
      rw [HP.out]
      refine bodyPost_ret (v := .tuple #[.agg (rcs F (.slice A1 n1 c1) (.slice A2 n2 c2)), .int .i64 9]) (by simp [results, Tryz.results24, go_sem, rcs, hcn]) rfl ⟨rfl, below_alloc (below_alloc (Below.refl _ _) _) _⟩
  · cases hcn : F.cn 4
    · by_cases h5 : e ≤ F.ep 4
      · have HP := Lib.hid (show P52.connect F 4 e = (F, 13) from by unfold P52.connect; rw [if_neg (by unfold P52.okS; simp; omega), if_neg (by show ¬ F.cn 4 = true; simp [hcn]), if_pos (show e ≤ F.ep (Int.toNat 4) from h5)])
        unfold rcs
        go_enter Tryz.func24, Tryz.ntmps24
        go_wp2
        rw [HP.out]
        refine bodyPost_ret (v := .tuple #[.agg (rcs F (.slice A1 n1 c1) (.slice A2 n2 c2)), .int .i64 13]) (by simp [results, Tryz.results24, go_sem, rcs, hcn]) rfl ⟨rfl, below_alloc (below_alloc (Below.refl _ _) _) _⟩
      · have HP := Lib.hid (show P52.connect F 4 e = (⟨P52.setAt F.ep 4 e, P52.setAt F.cn 4 true, F.s, F.lost, F.fast⟩, 0) from by unfold P52.connect; rw [if_neg (by unfold P52.okS; simp; omega), if_neg (by show ¬ F.cn 4 = true; simp [hcn]), if_neg (show ¬ e ≤ F.ep (Int.toNat 4) from h5)]; rfl)
        unfold rcs
        go_enter Tryz.func24, Tryz.ntmps24
        go_wp2
        rw [HP.out]
        refine bodyPost_ret (v := .tuple #[.agg (rcs ⟨P52.setAt F.ep 4 e, P52.setAt F.cn 4 true, F.s, F.lost, F.fast⟩ (.slice A1 n1 c1) (.slice A2 n2 c2)), .int .i64 0]) (by simp [results, Tryz.results24, go_sem, rcs, P52.setAt]) rfl ⟨rfl, below_alloc (below_alloc (Below.refl _ _) _) _⟩
    · have HP := Lib.hid (show P52.connect F 4 e = (F, 9) from by unfold P52.connect; rw [if_neg (by unfold P52.okS; simp; omega), if_pos (by show F.cn 4 = true; exact hcn)])
      unfold rcs
      go_enter Tryz.func24, Tryz.ntmps24
      go_wp2
      rw [HP.out]
      refine bodyPost_ret (v := .tuple #[.agg (rcs F (.slice A1 n1 c1) (.slice A2 n2 c2)), .int .i64 9]) (by simp [results, Tryz.results24, go_sem, rcs, hcn]) rfl ⟨rfl, below_alloc (below_alloc (Below.refl _ _) _) _⟩
end Go.Proofs.YtjklhiifjnmedaaGreat
