/- The walks of the leaves of package coupling: exists, change.Parts, system, gone. Classes: the classes that a lock touches. 'for k, v := range m' over a map from numbers to whatever values, of the call's own: which keys are still to come; plain theorems. interests: the classes in which each system has an interest. slices.IndexFunc and slices.ContainsFunc over numbers; alone: no other system has an interest in a class that a lock touches. -/
import Derived.Test.YtjklhiifjnmedaaGreatDoorNmA
import Derived.Test.YtjklhiifjnmedaaGreatDoorLkLeaf
import Derived.BigQuiet
import Derived.Test.YtjklhiifjnmedaaGreatDoorLkSame
import Derived.Lib.AtoiErrMem
import Derived.Test.YtjklhiifjnmedaaGreatDoorMapV
import Derived.Test.YtjklhiifjnmedaaGreatDoorLkApp
namespace Go.Proofs.YtjklhiifjnmedaaGreatDoor
open Go.RowKit P16 P46
attribute [local go_sem] ByteArray.mk_append_mk ByteArray.extract_mk mk_index

set_option maxRecDepth 100000 in
theorem cfExists (k : Int) (w : World) : Calls Tryz.prog 23 #[.int .i64 k] w fun e w' => e = .returned (.bool (P52.okS k)) ∧ w = w' := by
  have hv : P52.okS k = (decide (1 ≤ k) && decide (k ≤ 4)) := rfl
  by_cases h1 : 1 ≤ k <;> by_cases h2 : k ≤ 4
  all_goals
    have HV := Lib.hid hv
    clear hv
    go_enter Tryz.func23, Tryz.ntmps23
    go_wp2
    go_ret
    exact ⟨retBool (by rw [HV.out]; simp [h1, h2]), rfl⟩
/-- A number of 64 bits. -/
def InR (u : Int) : Prop := -9223372036854775808 ≤ u ∧ u ≤ 9223372036854775807
theorem InR.num {u : Int} (h : numB u = true) : InR u := by
  unfold numB at h
  simp at h
  unfold InR
  omega
set_option maxRecDepth 100000 in
set_option maxHeartbeats 1000000 in
theorem cfParts (u : Int) (hu : InR u) (w : World) : Calls Tryz.prog 68 #[.int .i64 u] w fun e w' => ∃ c, e = .returned (.tuple #[.int .i64 (P52.sysOf u), .int .i64 (P52.epOf u), .int .i64 c, .bool (decide (P52.sysOf u ≠ 0))]) ∧ w = w' := by
  unfold InR at hu
  have bad : ∀ (e : Ending) (w' : World), P52.sysOf u = 0 ∧ P52.epOf u = 0 → e = .returned (.tuple #[.int .i64 0, .int .i64 0, .int .i64 0, .bool false]) → w = w' → (∃ c, e = .returned (.tuple #[.int .i64 (P52.sysOf u), .int .i64 (P52.epOf u), .int .i64 c, .bool (decide (P52.sysOf u ≠ 0))]) ∧ w = w') := by
    rintro e w' ⟨h1, h2⟩ rfl rfl
    exact ⟨0, by rw [h1, h2]; rfl, rfl⟩
  have HB := Lib.hid bad
  clear bad
  by_cases h1 : u < 1
  · have HS := Lib.hid (show P52.sysOf u = 0 ∧ P52.epOf u = 0 from by unfold P52.sysOf P52.epOf; rw [if_pos (.inl h1), if_pos (.inl h1)]; exact ⟨rfl, rfl⟩)
    refine Calls.mono ?_ (fun e w' (h : e = .returned (.tuple #[.int .i64 0, .int .i64 0, .int .i64 0, .bool false]) ∧ w = w') => HB.out e w' HS.out h.1 h.2)
    go_enter Tryz.func68, Tryz.ntmps68
    go_wp2
    exact bodyPost_ret (v := .tuple #[.int .i64 0, .int .i64 0, .int .i64 0, .bool false]) (by simp [results, Tryz.results68, go_sem]) rfl ⟨rfl, rfl⟩
  · cases b2 : (u % 65536 == 0)
    · have h2 : u % 65536 ≠ 0 := by simpa using b2
      by_cases h3 : u / 65536 / 4 < 1
      · have HS := Lib.hid (show P52.sysOf u = 0 ∧ P52.epOf u = 0 from by unfold P52.sysOf P52.epOf; rw [if_pos (.inr (.inr (.inl (by omega)))), if_pos (.inr (.inr (.inl (by omega))))]; exact ⟨rfl, rfl⟩)
        refine Calls.mono ?_ (fun e w' (h : e = .returned (.tuple #[.int .i64 0, .int .i64 0, .int .i64 0, .bool false]) ∧ w = w') => HB.out e w' HS.out h.1 h.2)
        clear h2
        go_enter Tryz.func68, Tryz.ntmps68
        go_wp2
        exact bodyPost_ret (v := .tuple #[.int .i64 0, .int .i64 0, .int .i64 0, .bool false]) (by simp [results, Tryz.results68, go_sem]) rfl ⟨rfl, rfl⟩
      · by_cases h4 : 65535 < u / 65536 / 4
        · have HS := Lib.hid (show P52.sysOf u = 0 ∧ P52.epOf u = 0 from by unfold P52.sysOf P52.epOf; rw [if_pos (.inr (.inr (.inr (by omega)))), if_pos (.inr (.inr (.inr (by omega))))]; exact ⟨rfl, rfl⟩)
          refine Calls.mono ?_ (fun e w' (h : e = .returned (.tuple #[.int .i64 0, .int .i64 0, .int .i64 0, .bool false]) ∧ w = w') => HB.out e w' HS.out h.1 h.2)
          clear h2
          go_enter Tryz.func68, Tryz.ntmps68
          go_wp2
          exact bodyPost_ret (v := .tuple #[.int .i64 0, .int .i64 0, .int .i64 0, .bool false]) (by simp [results, Tryz.results68, go_sem]) rfl ⟨rfl, rfl⟩
        · have HS := Lib.hid (show P52.sysOf u = u / 65536 % 4 + 1 ∧ P52.epOf u = u / 65536 / 4 from by unfold P52.sysOf P52.epOf; rw [if_neg (by omega), if_neg (by omega)]; exact ⟨rfl, rfl⟩)
          refine Calls.mono ?_ (fun e w' (h : e = .returned (.tuple #[.int .i64 (u / 65536 % 4 + 1), .int .i64 (u / 65536 / 4), .int .i64 (u % 65536), .bool true]) ∧ w = w') => ⟨u % 65536, by rw [HS.out.1, HS.out.2, h.1, show decide (u / 65536 % 4 + 1 ≠ 0) = true from by simp; omega], h.2⟩)
          clear h2
          go_enter Tryz.func68, Tryz.ntmps68
          go_wp2
          exact bodyPost_ret (v := .tuple #[.int .i64 (u / 65536 % 4 + 1), .int .i64 (u / 65536 / 4), .int .i64 (u % 65536), .bool true]) (by simp [results, Tryz.results68, go_sem]) rfl ⟨rfl, rfl⟩
    · have h2 : u % 65536 = 0 := by simpa using b2
      have HS := Lib.hid (show P52.sysOf u = 0 ∧ P52.epOf u = 0 from by unfold P52.sysOf P52.epOf; rw [if_pos (.inr (.inl h2)), if_pos (.inr (.inl h2))]; exact ⟨rfl, rfl⟩)
      refine Calls.mono ?_ (fun e w' (h : e = .returned (.tuple #[.int .i64 0, .int .i64 0, .int .i64 0, .bool false]) ∧ w = w') => HB.out e w' HS.out h.1 h.2)
      clear h2
      go_enter Tryz.func68, Tryz.ntmps68
      go_wp2
      exact bodyPost_ret (v := .tuple #[.int .i64 0, .int .i64 0, .int .i64 0, .bool false]) (by simp [results, Tryz.results68, go_sem]) rfl ⟨rfl, rfl⟩
theorem cn_cell {w : World} {b p nb : Nat} {F : P52.Fs} (h : Blk w b tF (fcs F p nb)) {k : Int} (h0 : 0 ≤ k) (h4 : k ≤ 4) : w.cell? ⟨b, 5 + k.toNat, none⟩ = some (.bool (F.cn k.toNat)) := by
  obtain ⟨n, rfl⟩ : ∃ n : Nat, k = (n : Int) := ⟨k.toNat, by omega⟩
  rw [Int.toNat_natCast, h.cell]
  have : n = 0 ∨ n = 1 ∨ n = 2 ∨ n = 3 ∨ n = 4 := by omega
  rcases this with rfl | rfl | rfl | rfl | rfl <;> rfl
theorem ep_cell {w : World} {b p nb : Nat} {F : P52.Fs} (h : Blk w b tF (fcs F p nb)) {k : Int} (h0 : 0 ≤ k) (h4 : k ≤ 4) : w.cell? ⟨b, k.toNat, none⟩ = some (.int .i64 (F.ep k.toNat)) := by
  obtain ⟨n, rfl⟩ : ∃ n : Nat, k = (n : Int) := ⟨k.toNat, by omega⟩
  rw [Int.toNat_natCast, h.cell]
  have : n = 0 ∨ n = 1 ∨ n = 2 ∨ n = 3 ∨ n = 4 := by omega
  rcases this with rfl | rfl | rfl | rfl | rfl <;> rfl
set_option maxRecDepth 100000 in
set_option maxHeartbeats 1000000 in
theorem cfSystem (u : Int) (hu : InR u) (b p nb : Nat) (F : P52.Fs) (w : World) (h : Blk w b tF (fcs F p nb)) :
    Calls Tryz.prog 39 #[.pointer (some ⟨b, 0, none⟩), .int .i64 u] w fun e w' => e = .returned (.tuple #[.int .i64 (P52.sysOf u), .bool (P52.pres F u)]) ∧ Below w.heap.size w w' := by
  have HC := Lib.hid (cfParts u hu w)
  have HP := Lib.hid (show P52.pres F u = (decide (P52.sysOf u ≠ 0) && (F.cn (P52.sysOf u).toNat && decide (F.ep (P52.sysOf u).toNat = P52.epOf u))) from rfl)
  obtain ⟨s, hs⟩ : ∃ s, P52.sysOf u = s := ⟨_, rfl⟩
  obtain ⟨ep, he⟩ : ∃ ep, P52.epOf u = ep := ⟨_, rfl⟩
  have hle := P52.sysOf_le u
  rw [hs] at hle
  have hc := cn_cell h hle.1 hle.2
  have hep := ep_cell h hle.1 hle.2
  have HS := Lib.hid (And.intro hs he)
  clear hs he hu h
  by_cases h0 : s = 0
  · have HZ := Lib.hid h0
    clear hc hep
    go_enter Tryz.func39, Tryz.ntmps39
    go_wp2_with fail
    refine HC.out.mono ?_
    rintro e w' ⟨c, rfl, rfl⟩
    rw [HS.out.1, HS.out.2]
    subst h0
    go_wp2
    go_ret2
    rw [HP.out, HS.out.1]
    exact ⟨rfl, Below.refl _ _⟩
  · have hd : decide (s ≠ 0) = true := by simpa using h0
    cases hcn : F.cn s.toNat <;> cases hee : (F.ep s.toNat == ep)
    all_goals
      have HQ := Lib.hid (And.intro hcn hee)
      rw [hcn] at hc
      go_enter Tryz.func39, Tryz.ntmps39
      go_wp2_with fail
      refine HC.out.mono ?_
      rintro e w' ⟨c, rfl, rfl⟩
      rw [HS.out.1, HS.out.2, hd]
      go_upto_region 4 with (fail)
      go_quiet (fail)
      try go_wp2
      go_ret2
      rw [HP.out, HS.out.1, HS.out.2, HQ.out.1, hd, show decide (F.ep s.toNat = ep) = (F.ep s.toNat == ep) from by rw [Bool.eq_iff_iff]; simp, HQ.out.2]
      exact ⟨rfl, below_drewN (Below.refl _ _) _⟩
set_option maxRecDepth 100000 in
set_option maxHeartbeats 1000000 in
theorem cfGone (u k : Int) (hu : InR u) (b p nb : Nat) (F : P52.Fs) (w : World) (h : Blk w b tF (fcs F p nb)) :
    Calls Tryz.prog 30 #[.pointer (some ⟨b, 0, none⟩), .int .i64 u, .int .i64 k] w fun e w' => e = .returned (.bool (P52.gone F u k)) ∧ Below w.heap.size w w' := by
  have HC := Lib.hid (cfSystem u hu b p nb F w h)
  have HP := Lib.hid (show P52.gone F u k = (decide (P52.sysOf u = k) && (decide (P52.sysOf u ≠ 0) && !P52.pres F u)) from rfl)
  obtain ⟨s, hs⟩ : ∃ s, P52.sysOf u = s := ⟨_, rfl⟩
  obtain ⟨q, hq⟩ : ∃ q, P52.pres F u = q := ⟨_, rfl⟩
  have HS := Lib.hid (And.intro hs hq)
  clear hs hq hu h
  by_cases h1 : s = k <;> by_cases h0 : s = 0 <;> cases q
  all_goals
    have HZ := Lib.hid (And.intro h0 h1)
    first | (have b1 := beq_of h1) | (have b1 := beq_not h1)
    first | (have b0 := bne_of h0) | (have b0 := bne_not h0)
    clear h0 h1
    go_enter Tryz.func30, Tryz.ntmps30
    go_wp2_with fail
    refine HC.out.mono ?_
    rintro e w' ⟨rfl, hb⟩
    rw [HS.out.1, HS.out.2]
    go_wp2
    go_ret
    rw [HP.out, HS.out.1, HS.out.2]
    exact ⟨retBool (by have a := HZ.out.1; have b := HZ.out.2; first | (simp [a, b]; done) | (subst b; simp [a])), hb⟩
end Go.Proofs.YtjklhiifjnmedaaGreatDoor
namespace Go.Proofs.YtjklhiifjnmedaaGreatDoor
open Go.RowKit P16 P46
attribute [local go_sem] ByteArray.mk_append_mk ByteArray.extract_mk mk_index

theorem sumB_take {l : List UInt8} {k : Nat} {b : UInt8} (h : l[k]? = some b) : P52.sumB (l.take (k + 1)) = P52.sumB (l.take k) + (b.toNat : Int) := by
  rw [take_snoc h, P52.sumB_snoc]
/-- Classes of a lock whose number is not negative. -/
structure LockIn (l : Lock) : Prop where
  id0 : 0 ≤ l.id
  id1 : l.id ≤ 1099511627776
  low : l.r.low.length ≤ 1000
theorem LockIn.of_valid {l : Lock} (h : validL l = true) : LockIn l := by
  unfold validL numB at h
  simp at h
  exact ⟨by omega, by omega, by omega⟩
theorem OwnI.lit1 {B : Nat} (w : World) (x : Int) (hB : B ≤ w.heap.size) : OwnI (w.alloc (.cells #[.int .i64 x] 3)) B (.slice (some ⟨w.heap.size, 0, none⟩) 1 1) [x] :=
  ⟨rfl, .inr ⟨w.heap.size, 1, _, rfl, hB, Blk.new _ _ _, by simp, by unfold maxLen; omega, rfl, rfl⟩⟩
theorem strs_eq {a b : List UInt8} : ((⟨a.toArray⟩ : ByteArray) = ⟨b.toArray⟩) ↔ a = b := by simp
set_option maxRecDepth 100000 in
set_option maxHeartbeats 2000000 in
theorem cfClasses (l : Lock) (hl : LockIn l) (w : World) :
    Calls Tryz.prog 73 #[lv l] w fun e w' => ∃ v, e = .returned v ∧ OwnI w' w.heap.size v (P52.classesL l) ∧ Below w.heap.size w w' := by
  obtain ⟨i1, hi1, hy0, hy1, hy2⟩ := info_parts infoI
  have HI1 := Lib.hid hi1
  have HY0 := Lib.hid hy0
  have HY1 := Lib.hid hy1
  have HY2 := Lib.hid hy2
  clear hi1 hy0 hy1 hy2
  obtain ⟨i0, i9, hll⟩ := hl
  by_cases hs : l.r.low = l.r.high ∧ l.r.e = false
  · have HC := Lib.hid (show P52.classesL l = [(l.id % 16 + P52.sumB l.r.low) % 16] from by unfold P52.classesL P52.classesP; rw [if_pos hs]; rfl)
    have HS := Lib.hid hs
    clear hs
    unfold lv
    go_enter Tryz.func73, Tryz.ntmps73
    go_upto_region 1 with (fail)
    obtain ⟨w2, g, e1, e2, hb, hx⟩ := boxes1 w 46 (la l)
    unfold la at e1
    rw [e1, e2]
    obtain ⟨a0, a1, a2, a3, a4, a5⟩ := lcells hx
    rw [← HS.out.1] at a3
    rw [HS.out.2] at a4
    have HB := Lib.hid hb
    clear e1 e2 hb hx
    have hcv := Lib.run_convert_string_bytes (P := Tryz.prog) w2 9 128 5 ⟨l.r.low.toArray⟩ (u := .string) Tryz.underlying9 Tryz.underlying128 Tryz.underlying5
    have hbw := Lib.bytesWorld_below w2 5 ⟨l.r.low.toArray⟩
    have hcell := Lib.bytesWorld_cell w2 5 ⟨l.r.low.toArray⟩
    generalize Lib.bytesWorld w2 5 ⟨l.r.low.toArray⟩ = W1 at hcv hbw hcell
    generalize grownCap w2 (⟨l.r.low.toArray⟩ : ByteArray).size 0 5 = cap at hcv
    have hsz : (⟨l.r.low.toArray⟩ : ByteArray).size = l.r.low.length := by simp [ByteArray.size]
    rw [hsz] at hcv hcell
    have HW := Lib.hid (below_then HB.out hbw)
    have HL := Lib.hid (show ∀ (k : Nat) (b : UInt8), l.r.low[k]? = some b → W1.cell? ⟨w2.heap.size, k, none⟩ = some (.int .u8 (b.toNat : Int)) from fun k b hk => by
      have hlt := (List.getElem?_eq_some_iff.1 hk).1
      rw [hcell k hlt]
      simp [hk])
    obtain ⟨n, hn⟩ : ∃ n, l.r.low.length = n := ⟨_, rfl⟩
    rw [hn] at hll hcv
    have HN := Lib.hid hn
    generalize w2.heap.size = g2 at hcv HL
    clear hbw hcell hsz hn
    go_wp2
    go_loopw [3, 29] (fun s i wr => ∃ k : Nat, k ≤ n ∧ i = .int .i64 k ∧ s = .int .i64 (l.id % 16 + P52.sumB (l.r.low.take k)) ∧ wr = W1) (fun _ i _ => n - (intOf i).toNat)
    case atStart => exact ⟨0, Nat.zero_le _, rfl, by simp [P52.sumB], rfl⟩
    case round =>
      obtain ⟨k, hk, rfl, rfl, rfl⟩ := hrel
      have hsb := P52.sumB_le (l.r.low.take k)
      have hsl : (l.r.low.take k).length ≤ k := List.length_take_le _ _
      by_cases hlt : k < n
      · have hg : l.r.low[k]? = some (l.r.low[k]'(by rw [HN.out]; exact hlt)) := List.getElem?_eq_getElem _
        generalize l.r.low[k]'(by rw [HN.out]; exact hlt) = b at hg
        have hck := HL.out k b hg
        have HX := Lib.hid (sumB_take hg)
        have hbb := b.toNat_lt
        generalize P52.sumB (l.r.low.take k) = sm at HX hsb ⊢
        clear hg
        go_wp2
        go_roundw
        case rel => exact ⟨k + 1, by omega, by go_num, by rw [HX.out]; first | rfl | (congr 1; omega), trivial⟩
        case measure => simp [intOf]; omega
      · have hkn : k = n := by omega
        subst hkn
        go_wp2
        go_ret
        have htake : l.r.low.take k = l.r.low := List.take_of_length_le (by rw [HN.out]; exact Nat.le_refl _)
        refine ⟨_, rfl, ?_, HW.out.alloc HW.out.size _⟩
        rw [HC.out, htake]
        have e : (l.id % 16 + P52.sumB l.r.low) % 16 = (l.id + P52.sumB l.r.low) % 16 := by omega
        rw [e]
        exact OwnI.lit1 wr _ HW.out.size
  · have HC := Lib.hid (show P52.classesL l = (List.range 16).map Int.ofNat from by unfold P52.classesL P52.classesP; rw [if_neg hs])
    by_cases h1 : l.r.low = l.r.high
    · have HS := Lib.hid (show l.r.low = l.r.high ∧ l.r.e = true from ⟨h1, by cases h : l.r.e <;> simp_all⟩)
      clear hs h1
      unfold lv
      go_enter Tryz.func73, Tryz.ntmps73
      go_upto_region 1 with (fail)
      obtain ⟨w2, g, e1, e2, hb, hx⟩ := boxes1 w 46 (la l)
      unfold la at e1
      rw [e1, e2]
      obtain ⟨a0, a1, a2, a3, a4, a5⟩ := lcells hx
      rw [← HS.out.1] at a3
      rw [HS.out.2] at a4
      have HB := Lib.hid hb
      clear e1 e2 hb hx
      go_wp2
      go_loopw [6, 43] (fun v i wr => ∃ k : Nat, k ≤ 16 ∧ i = .int .i64 k ∧ OwnI wr w.heap.size v ((List.range k).map Int.ofNat) ∧ Below w.heap.size w wr) (fun _ i _ => 16 - (intOf i).toNat)
      case atStart => exact ⟨0, by omega, rfl, OwnI.nil _ _, HB.out⟩
      case round =>
        obtain ⟨k, hk, rfl, ho, hbw⟩ := hrel
        have HO := Lib.hid ho
        have HW := Lib.hid hbw
        have hsz := hbw.size
        clear ho hbw
        by_cases hlt : k < 16
        · have HX := Lib.hid (show (List.range (k + 1)).map Int.ofNat = (List.range k).map Int.ofNat ++ [(k : Int)] from by rw [List.range_succ, List.map_append]; rfl)
          have hul : ((List.range k).map Int.ofNat).length ≤ 16 := by simp; omega
          generalize (List.range k).map Int.ofNat = us at HO HX hul
          obtain ⟨A3, c3, rfl, -, -⟩ := HO.out.cells
          go_wp2_with (at_builtin; refine wpList_append_int rfl (.tmp 46) (.tmp 48) _ rfl w.heap.size i1 _ Tryz.underlying36 HI1.out HY0.out HY1.out HY2.out rfl _ us rfl (HO.out.alloc _) (k : Int) wr.heap.size 1 rfl (World.cell?_alloc_mark wr _ 3 (0, 0) 0) (by omega) (by simp; omega) ?_; intro v11 w11 hown11 hg11 hat11; have HO11 := Lib.hid hown11; have HB11 := Lib.hid ((HW.out.alloc hsz _).grown hg11 (by rw [World.size_alloc]; omega) (fun k hk => (HO.out.lt k hk).1)); clear hown11 hg11 hat11)
          go_roundw
          case rel => exact ⟨k + 1, by omega, by go_num, by rw [HX.out]; exact HO11.out, HB11.out⟩
          case measure => simp [intOf]; omega
        · have hkn : k = 16 := by omega
          subst hkn
          go_wp2
          go_ret
          exact ⟨_, rfl, by rw [HC.out]; exact HO.out, HW.out⟩
    · clear hs
      have hne : ¬ ((⟨l.r.low.toArray⟩ : ByteArray) = ⟨l.r.high.toArray⟩) := fun e => h1 (strs_eq.1 e)
      unfold lv
      go_enter Tryz.func73, Tryz.ntmps73
      go_upto_region 1 with (fail)
      obtain ⟨w2, g, e1, e2, hb, hx⟩ := boxes1 w 46 (la l)
      unfold la at e1
      rw [e1, e2]
      obtain ⟨a0, a1, a2, a3, a4, a5⟩ := lcells hx
      have HB := Lib.hid hb
      clear e1 e2 hb hx
      go_wp2
      go_loopw [6, 43] (fun v i wr => ∃ k : Nat, k ≤ 16 ∧ i = .int .i64 k ∧ OwnI wr w.heap.size v ((List.range k).map Int.ofNat) ∧ Below w.heap.size w wr) (fun _ i _ => 16 - (intOf i).toNat)
      case atStart => exact ⟨0, by omega, rfl, OwnI.nil _ _, HB.out⟩
      case round =>
        obtain ⟨k, hk, rfl, ho, hbw⟩ := hrel
        have HO := Lib.hid ho
        have HW := Lib.hid hbw
        have hsz := hbw.size
        clear ho hbw
        by_cases hlt : k < 16
        · have HX := Lib.hid (show (List.range (k + 1)).map Int.ofNat = (List.range k).map Int.ofNat ++ [(k : Int)] from by rw [List.range_succ, List.map_append]; rfl)
          have hul : ((List.range k).map Int.ofNat).length ≤ 16 := by simp; omega
          generalize (List.range k).map Int.ofNat = us at HO HX hul
          obtain ⟨A3, c3, rfl, -, -⟩ := HO.out.cells
          go_wp2_with (at_builtin; refine wpList_append_int rfl (.tmp 46) (.tmp 48) _ rfl w.heap.size i1 _ Tryz.underlying36 HI1.out HY0.out HY1.out HY2.out rfl _ us rfl (HO.out.alloc _) (k : Int) wr.heap.size 1 rfl (World.cell?_alloc_mark wr _ 3 (0, 0) 0) (by omega) (by simp; omega) ?_; intro v11 w11 hown11 hg11 hat11; have HO11 := Lib.hid hown11; have HB11 := Lib.hid ((HW.out.alloc hsz _).grown hg11 (by rw [World.size_alloc]; omega) (fun k hk => (HO.out.lt k hk).1)); clear hown11 hg11 hat11)
          go_roundw
          case rel => exact ⟨k + 1, by omega, by go_num, by rw [HX.out]; exact HO11.out, HB11.out⟩
          case measure => simp [intOf]; omega
        · have hkn : k = 16 := by omega
          subst hkn
          go_wp2
          go_ret
          exact ⟨_, rfl, by rw [HC.out]; exact HO.out, HW.out⟩
end Go.Proofs.YtjklhiifjnmedaaGreatDoor
namespace Go.Proofs.YtjklhiifjnmedaaGreatDoor
open Go.RowKit Go.Maps

/-- 'for k, v := range m' under way: 'left' tells which keys are still to come, cnt how many. -/
structure MapL (w : World) (P : Program) (kt : TypeId) (b r n : Nat) (M : Lit → Option Value) (left : Int → Bool) (cnt : Nat) : Prop where
  own : ∃ (D : DataW Value) (lf : Lit → Bool), w.ranges P kt selfElem b r n D lf cnt ∧ (∀ k, has D k = (M k).isSome) ∧ (∀ k v, M k = some v → ∀ z, D.atKey k z = .held v) ∧ (∀ a, lf (.int .i64 a) = left a) ∧ ∀ a, left a = true → (M (.int .i64 a)).isSome = true
section
variable {P : Program} {w w' : World} {kt : TypeId} {b n : Nat} {M : Lit → Option Value} {left : Int → Bool}
theorem MapL.map {r cnt : Nat} (h : MapL w P kt b r n M left cnt) : MapV w P kt b n M := by
  obtain ⟨D, lf, h1, h2, h3, _⟩ := h.own
  exact ⟨D, h1.owns, h2, h3⟩
theorem MapL.kept {r cnt : Nat} {row : Option Nat} (h : MapL w P kt b r n M left cnt) (hg : w.grownBy w' row) (hb : some b ≠ row) (hr : some r ≠ row) : MapL w' P kt b r n M left cnt := by
  obtain ⟨D, lf, h1, h2⟩ := h.own
  exact ⟨D, lf, h1.kept hg hb hr, h2⟩
theorem MapL.lt {r cnt : Nat} (h : MapL w P kt b r n M left cnt) : b < w.heap.size ∧ r < w.heap.size ∧ r ≠ b := by
  obtain ⟨D, lf, h1, _⟩ := h.own
  exact ⟨h1.owns.lt, h1.lt, h1.ne⟩
theorem MapL.below {r cnt : Nat} (h : MapL w P kt b r n M left cnt) (hb : Below w.heap.size w w') : MapL w' P kt b r n M left cnt :=
  h.kept (row := none) ⟨hb.os, hb.tape, hb.output, hb.size, fun k hk _ => hb.block k hk⟩ (by simp) (by simp)
theorem MapL.count {r cnt : Nat} (h : MapL w P kt b r n M left cnt) : w.rangeLeft b r = cnt := by
  obtain ⟨D, lf, h1, _⟩ := h.own
  exact h1.left_eq
variable {et : TypeId} {ops : Array Oper} {rest : List Oper} {o : Oper} {a : Act} {Q : Exit → Act → World → Prop}
/-- 'range m'. -/
theorem wpList_mapL_range (hg : o.guard = none) (m : Operand) (t : TypeId) (hop : o.op = Op.range t m) (K : Keyed P kt)
    (ht : P.underlying t = some (.map kt et)) (hm : a.eval m = .map (some b)) (hs : MapV w P kt b n M)
    (hK : ∀ w' cnt, MapL w' P kt b w.heap.size n M (fun x => (M (.int .i64 x)).isSome) cnt → w.grownBy w' none → w'.heap.size = w.heap.size + 1 → wpList P ops Q rest (a.put o.dst (.pointer (some ⟨w.heap.size, 0, none⟩))) w') : wpList P ops Q (o :: rest) a w := by
  obtain ⟨D, h1, h2, h3⟩ := hs.own
  exact wpList_range_own w hg m t hop kt et K ht selfElem b n D hm h1 (fun w' hr hgr hsz => hK w' _ ⟨D, _, hr, h2, h3, fun x => h2 _, fun _ h => h⟩ hgr hsz)
/-- The next key, whichever it is, with its value. -/
theorem wpList_mapL_next {r cnt : Nat} (hg : o.guard = none) (it : Operand) (hop : o.op = Op.next it false)
    (hk : P.underlying kt = some (.int .i64)) (hit : a.eval it = .pointer (some ⟨r, 0, none⟩)) (hs : MapL w P kt b r n M left cnt)
    (hDone : (∀ x, left x = false) → wpList P ops Q rest (a.put o.dst (.tuple #[.bool false])) w)
    (hMore : ∀ (x : Int) (v : Value) (w' : World) (cnt' : Nat), left x = true → M (.int .i64 x) = some v → MapL w' P kt b r n M (fun y => left y && decide (y ≠ x)) cnt' → cnt' < cnt → w.grownBy w' (some r) → w'.heap.size = w.heap.size → (Instr.entry (.pointer (some ⟨r, 0, none⟩))).run P w' = .ok (.tuple #[.int .i64 x, v]) w' → wpList P ops Q rest (a.put o.dst (.tuple #[.bool true, .int .i64 x, v])) w') : wpList P ops Q (o :: rest) a w := by
  obtain ⟨D, lf, h1, h2, h3, h4, h5⟩ := hs.own
  refine wpList_next_ranges w hg it hop kt (int_keyed hk) selfElem (Value.int .i64) (fun v : Value => v) (fun key kl hkey => by obtain ⟨x, rfl, _⟩ := Maps.keyOf_int_inv hk hkey; exact ⟨x, rfl⟩) (fun v y _ => ⟨v, rfl⟩) b r n D lf cnt hit h1 (fun _ hl => hDone (fun x => by rw [← h4]; exact hl _)) ?_
  intro x c kl y w' cnt' hkey hlk hv hat hrg hlt hgr hsz hen
  obtain ⟨x', ex, rfl, hwx⟩ := Maps.keyOf_int_inv hk hkey
  cases ex
  have hlx : left x = true := by rw [← h4]; exact hlk
  obtain ⟨v, hMv⟩ := Option.isSome_iff_exists.1 (h5 x hlx)
  have e := hat (.held c)
  rw [h3 _ _ hMv] at e
  unfold selfElem at hv
  have hy : y = (.held c, []) := (Option.some.inj hv).symm
  rw [hy] at e
  injection e with e
  subst e
  refine hMore x v w' cnt' hlx hMv ⟨D, _, hrg, h2, h3, fun z => ?_, fun z hz => ?_⟩ hlt hgr hsz hen
  · rw [h4]
    congr 1
    simp [Lit.sameKey]
  · simp at hz
    exact h5 z hz.1
end
end Go.Proofs.YtjklhiifjnmedaaGreatDoor
namespace Go.Proofs.YtjklhiifjnmedaaGreatDoor
open Go.RowKit Go.Maps P16 P46
attribute [local go_sem] ByteArray.mk_append_mk ByteArray.extract_mk mk_index

def hasS (ls : List Lock) (s : Int) : Bool := ls.any fun x => decide (P52.sysOf x.unit = s)
def clsS (ls : List Lock) (s : Int) (c : Nat) : Bool := ls.any fun x => decide (P52.sysOf x.unit = s) && (P52.classesL x).contains (c : Int)
/-- Sixteen classes as an array's cells. -/
def cvs (C : Nat → Bool) : Array Value := #[.bool (C 0), .bool (C 1), .bool (C 2), .bool (C 3), .bool (C 4), .bool (C 5), .bool (C 6), .bool (C 7), .bool (C 8), .bool (C 9), .bool (C 10), .bool (C 11), .bool (C 12), .bool (C 13), .bool (C 14), .bool (C 15)]
/-- The interests of the systems of 'ls'. -/
def mapI (ls : List Lock) : Lit → Option Value := fun k => match k with
  | .int .i64 s => if hasS ls s = true then some (.agg (cvs (clsS ls s))) else none
  | _ => none
theorem mapI_nil : (fun _ => none : Lit → Option Value) = mapI [] := by
  funext k
  unfold mapI
  split
  · rfl
  · rfl
theorem clsS_none {ls : List Lock} {s : Int} (h : hasS ls s = false) (c : Nat) : clsS ls s c = false := by
  unfold hasS at h
  unfold clsS
  rw [List.any_eq_false] at h ⊢
  intro x hx
  have := h x hx
  simp at this
  simp [this]
theorem cvs_congr {C D : Nat → Bool} (h : ∀ c, C c = D c) : cvs C = cvs D := by rw [show C = D from funext h]
theorem mapI_get (ls : List Lock) (s : Int) : (mapI ls (.int .i64 s)).getD (.agg (cvs fun _ => false)) = .agg (cvs (clsS ls s)) := by
  show (if hasS ls s = true then some (Value.agg (cvs (clsS ls s))) else none).getD _ = _
  cases h : hasS ls s
  · rw [if_neg (by decide)]
    show Value.agg (cvs fun _ => false) = _
    rw [cvs_congr (fun c => (clsS_none h c).symm)]
  · rw [if_pos rfl]
    rfl
theorem mapI_put {ls : List Lock} {x : Lock} {C : Nat → Bool} (h : ∀ c, C c = (clsS ls (P52.sysOf x.unit) c || (P52.classesL x).contains (c : Int))) : putM (mapI ls) (.int .i64 (P52.sysOf x.unit)) (.agg (cvs C)) = mapI (ls ++ [x]) := by
  funext k
  unfold putM
  by_cases e : k = .int .i64 (P52.sysOf x.unit)
  · subst e
    rw [if_pos (by simp [Lit.sameKey])]
    show _ = if hasS (ls ++ [x]) (P52.sysOf x.unit) = true then some (Value.agg (cvs (clsS (ls ++ [x]) (P52.sysOf x.unit)))) else none
    rw [if_pos (by unfold hasS; simp), cvs_congr (D := clsS (ls ++ [x]) (P52.sysOf x.unit)) (fun c => by rw [h]; unfold clsS; simp)]
  · rw [if_neg (by rw [sameKey_ne e]; simp)]
    unfold mapI
    split
    · rename_i s
      have hs : P52.sysOf x.unit ≠ s := fun e' => e (by rw [e'])
      have h1 : hasS (ls ++ [x]) s = hasS ls s := by unfold hasS; simp [hs]
      have h2 : clsS (ls ++ [x]) s = clsS ls s := by funext c; unfold clsS; simp [hs]
      rw [h1, h2]
    · rfl
theorem cvs_put {C : Nat → Bool} {i : Int} (h0 : 0 ≤ i) (h1 : i < 16) : (cvs C).setIfInBounds i.toNat (.bool true) = cvs (fun c => C c || decide ((c : Int) = i)) := by
  obtain ⟨n, rfl⟩ : ∃ n : Nat, i = (n : Int) := ⟨i.toNat, by omega⟩
  rw [Int.toNat_natCast]
  have : n = 0 ∨ n = 1 ∨ n = 2 ∨ n = 3 ∨ n = 4 ∨ n = 5 ∨ n = 6 ∨ n = 7 ∨ n = 8 ∨ n = 9 ∨ n = 10 ∨ n = 11 ∨ n = 12 ∨ n = 13 ∨ n = 14 ∨ n = 15 := by omega
  rcases this with rfl | rfl | rfl | rfl | rfl | rfl | rfl | rfl | rfl | rfl | rfl | rfl | rfl | rfl | rfl | rfl <;> simp [cvs]
theorem cvs_cell {w : World} {g : Nat} {t : TypeId} {C : Nat → Bool} (h : Blk w g t (cvs C)) {i : Int} (h0 : 0 ≤ i) (h1 : i < 16) : w.cell? ⟨g, i.toNat, none⟩ = some (.bool (C i.toNat)) := by
  obtain ⟨n, rfl⟩ : ∃ n : Nat, i = (n : Int) := ⟨i.toNat, by omega⟩
  rw [Int.toNat_natCast, h.cell]
  have : n = 0 ∨ n = 1 ∨ n = 2 ∨ n = 3 ∨ n = 4 ∨ n = 5 ∨ n = 6 ∨ n = 7 ∨ n = 8 ∨ n = 9 ∨ n = 10 ∨ n = 11 ∨ n = 12 ∨ n = 13 ∨ n = 14 ∨ n = 15 := by omega
  rcases this with rfl | rfl | rfl | rfl | rfl | rfl | rfl | rfl | rfl | rfl | rfl | rfl | rfl | rfl | rfl | rfl <;> rfl
theorem madeMapI (w : World) : ∃ (w2 : World) (b : Nat), w.alloc (.map #[] 0) = w2 ∧ w.heap.size = b ∧ b < w2.heap.size ∧ Below w.heap.size w w2 ∧ MapV w2 Tryz.prog 3 b 0 (mapI []) := by
  refine ⟨_, _, rfl, rfl, by simp, below_alloc (Below.refl _ _) _, ?_⟩
  rw [← mapI_nil]
  exact MapV.made w Tryz.prog 3
theorem cell_grown {w w' : World} {row : Option Nat} (hg : w.grownBy w' row) {p : Addr} (hp : p.block < w.heap.size) (hne : some p.block ≠ row) : w'.cell? p = w.cell? p := by
  unfold World.cell?
  rw [hg.block _ hp hne]
theorem classes_len (l : Lock) : (P52.classesL l).length ≤ 16 := by
  unfold P52.classesL P52.classesP
  split <;> simp
theorem wf_sys {s : Int} (h : 0 ≤ s ∧ s ≤ 4) : (Lit.int .i64 s).wf = true := by
  have : s = 0 ∨ s = 1 ∨ s = 2 ∨ s = 3 ∨ s = 4 := by omega
  rcases this with rfl | rfl | rfl | rfl | rfl <;> rfl
theorem cvs_all (C : Nat → Bool) : (cvs C).all (·.oneCell') = true := by simp [cvs, Value.oneCell']
/-- The classes of a lock, up to the j-th, laid over others. -/
def upTo (C : Nat → Bool) (cs : List Int) (j : Nat) : Nat → Bool := fun c => C c || (cs.take j).contains (c : Int)
theorem upTo_zero (C : Nat → Bool) (cs : List Int) (c : Nat) : C c = upTo C cs 0 c := by simp [upTo]
theorem upTo_next {C : Nat → Bool} {cs : List Int} {j : Nat} {i : Int} (h : cs[j]? = some i) (c : Nat) : (upTo C cs j c || decide ((c : Int) = i)) = upTo C cs (j + 1) c := by
  unfold upTo
  rw [take_snoc h, Bool.or_assoc]
  congr 1
  rw [Bool.eq_iff_iff]
  simp
theorem upTo_all {C : Nat → Bool} {cs : List Int} {j : Nat} (h : cs.length ≤ j) (c : Nat) : upTo C cs j c = (C c || cs.contains (c : Int)) := by
  unfold upTo
  rw [List.take_of_length_le h]
set_option maxRecDepth 100000 in
set_option maxHeartbeats 4000000 in
theorem cfInterests (B b p nb : Nat) (F : P52.Fs) (vh vq : Value) (w : World) (hf : FacP w B b p nb F vh vq) (hv : Valids F.s) (hl : F.s.h.length + F.s.q.length ≤ 100000) :
    Calls Tryz.prog 71 #[.pointer (some ⟨b, 0, none⟩)] w fun e w' => ∃ mb n, e = .returned (.map (some mb)) ∧ MapV w' Tryz.prog 3 mb n (mapI (F.s.h ++ F.s.q)) ∧ n ≤ 100000 ∧ Below w.heap.size w w' := by
  have HF := Lib.hid hf
  have HV := Lib.hid hv
  have HL := Lib.hid hl
  obtain ⟨i0, hi0, hz0, hz1, hz2⟩ := info_parts infoL
  have HI := Lib.hid hi0
  have HZ0 := Lib.hid hz0
  have HZ1 := Lib.hid hz1
  have HZ2 := Lib.hid hz2
  clear hi0 hz0 hz1 hz2 hf hv hl
  have hlenL : (Tryz.prog.info? 46).map (·.size) = some 6 := by kernel_rfl
  have hlenC : (Tryz.prog.info? 109).map (·.size) = some 16 := by kernel_rfl
  have hmm := @run_makeMap Tryz.prog
  go_enter Tryz.func71, Tryz.ntmps71
  go_upto_region 2 with (fail)
  obtain ⟨w1, mb, e1, e2, hlt1, hb1, hm1⟩ := madeMapI w
  have HMB := Lib.hid (show w.heap.size ≤ mb from by omega)
  rw [e1, e2]
  have HB1 := Lib.hid hb1
  have HM1 := Lib.hid hm1
  have HF1 := Lib.hid (HF.out.below hb1)
  have hc10 := HF1.out.box.cell 10
  simp [fcs] at hc10
  clear e1 e2 hb1 hm1
  go_wp2_with fail
  refine (lkAll B p _ _ vh vq w1 HF1.out.mgr (by have := HL.out; omega)).mono ?_
  rintro e w2 ⟨v1, v2, rfl, ho1, ho2, hne, hb2⟩
  obtain ⟨A1, c1, rfl, -, -⟩ := ho1.cells
  obtain ⟨A2, c2, rfl, hs2, -⟩ := ho2.cells
  have HO1 := Lib.hid ho1
  have HS2 := Lib.hid hs2
  have HZ := Lib.hid ho2.nilLen
  have HM2 := Lib.hid (HM1.out.below hb2)
  have HB2 := Lib.hid (below_then HB1.out hb2)
  have hz12 := hb2.size
  clear ho1 ho2 hs2 hne hb2 hc10
  obtain ⟨all, hall⟩ : ∃ all, F.s.h ++ F.s.q = all := ⟨_, rfl⟩
  have HALL := Lib.hid (show (∀ x ∈ all, validL x = true) ∧ all.length ≤ 100000 from by
    subst hall
    refine ⟨fun x hx => ?_, by have := HL.out; simpa using this⟩
    rcases List.mem_append.1 hx with h | h
    · exact HV.out.1 x h
    · exact HV.out.2 x h)
  have hl6 : F.s.h.length + F.s.q.length ≤ 1000000 := by have := HL.out; omega
  have HE := Lib.hid hall
  clear hall
  go_wp2_with (at_builtin; refine wpList_append_locks rfl (.tmp 22) (.tmp 23) _ rfl w1.heap.size 46 i0 _ 64 Tryz.underlying50 HI.out HZ0.out HZ1.out HZ2.out rfl (by omega) _ F.s.h rfl HO1.out F.s.q A2 _ c2 rfl HZ.out HS2.out hl6 hz12 ?_; intro v3 w3 hown3 hg3 hat3; rw [HE.out] at hown3; have hne3 : v3.ownBlock ≠ some mb := fun e => (by have h := (hown3.lt mb e).1; omega); have HB3 := Lib.hid (HB2.out.grown hg3 (HB2.out.size) (fun k hk => Nat.le_trans HB1.out.size (HO1.out.lt k hk).1)); have HM3 := Lib.hid (HM2.out.kept hg3 (fun e => (by have h := (HO1.out.lt mb e.symm).1; omega))); obtain ⟨A3, c3, rfl, -, -⟩ := hown3.cells; have HO3 := Lib.hid hown3; clear hown3 hg3 hat3)
  have HNE := Lib.hid hne3
  obtain ⟨n, hn⟩ : ∃ n, all.length = n := ⟨_, rfl⟩
  rw [hn]
  have HN := Lib.hid hn
  have hn6 : n ≤ 100000 := by have := HALL.out.2; omega
  clear hne3 hn hl6
  -- HERE
  go_loopw [26] (fun i wr => ∃ k : Nat, k ≤ n ∧ i = .int .i64 k ∧ MapV wr Tryz.prog 3 mb k (mapI (all.take k)) ∧ OwnL wr w1.heap.size 46 (.slice A3 n c3) all ∧ Below w.heap.size w wr) (fun i _ => n - (intOf i).toNat)
  case atStart => exact ⟨0, Nat.zero_le _, rfl, HM3.out, by have := HO3.out; rw [HN.out] at this; exact this, HB3.out⟩
  case round =>
    obtain ⟨k, hk, rfl, hm, ho, hbw⟩ := hrel
    have HM := Lib.hid hm
    have HO := Lib.hid ho
    have HB := Lib.hid hbw
    clear hm ho hbw
    by_cases hlt : k < n
    · obtain ⟨A4, c4, hv4, hs4, -⟩ := HO.out.cells
      rw [HN.out] at hv4 hs4
      obtain ⟨rfl, -, rfl⟩ : A3 = A4 ∧ n = n ∧ c3 = c4 := by simpa using hv4
      obtain ⟨bk, off, x, rfl, hx, -⟩ := hs4.at_ hlt
      have HR := Lib.hid (hs4.row hx)
      have hvx := HALL.out.1 x (List.mem_iff_getElem?.2 ⟨k, hx⟩)
      have HX := Lib.hid hx
      have HVX := Lib.hid hvx
      have HU := Lib.hid (InR.num (u := x.unit) (by unfold validL at hvx; simp at hvx; exact hvx.1.1.1.1))
      clear hv4 hs4 hx hvx
      go_upto_region 6 with (refine wpList_load_cells rfl 46 (.tmp 28) rfl ⟨bk, off + k * 6, none⟩ rfl _ _ HR.out Tryz.underlying46 rfl hlenL ?_)
      obtain ⟨w4, g4, e1, e2, hb4, h4⟩ := boxes1 wr 46 (la x)
      unfold la at e1
      rw [e1, e2]
      have HB4 := Lib.hid (HB.out.trans (hb4.mono HB.out.size))
      have HM4 := Lib.hid (HM.out.below hb4)
      have HO4 := Lib.hid (HO.out.below hb4)
      have HL4 := Lib.hid h4
      obtain ⟨a0, -, -, -, -, -⟩ := lcells h4
      clear e1 e2 hb4 h4
      go_upto_region 7 with (go_at_call 39; refine (cfSystem x.unit HU.out b p nb F _ (HF.out.below HB4.out).box).mono ?_; rintro e w5 ⟨rfl, hb5⟩; have HB5 := Lib.hid (HB4.out.trans (hb5.mono HB4.out.size)); have HM5 := Lib.hid (HM4.out.below hb5); have HO5 := Lib.hid (HO4.out.below hb5); have HL5 := Lib.hid (HL4.out.below hb5); clear hb5 a0)
      clear HM4 HO4 HL4 HB4
      have hsl := P52.sysOf_le x.unit
      obtain ⟨s, hs⟩ : ∃ s, P52.sysOf x.unit = s := ⟨_, rfl⟩
      obtain ⟨pr, hpr⟩ : ∃ pr, P52.pres F x.unit = pr := ⟨_, rfl⟩
      rw [hs] at hsl
      rw [hs, hpr]
      have HS := Lib.hid hs
      have HWF := Lib.hid (wf_sys hsl)
      have hzC : ∀ w, (zeroValue 109).run Tryz.prog w = .ok (.agg (cvs fun _ => false)) w := fun w => by kernel_rfl
      obtain ⟨C0, hC0⟩ : ∃ C0, clsS (all.take k) s = C0 := ⟨_, rfl⟩
      have HC0 := Lib.hid hC0
      have HG := Lib.hid (show (mapI (all.take k) (.int .i64 s)).getD (.agg (cvs fun _ => false)) = .agg (cvs C0) from by rw [mapI_get, hC0])
      have HK := Lib.hid (Blk.new w5 109 (cvs fun _ => false))
      clear hs hpr hC0
      go_upto_region 8 with (first | (refine wpList_mapV_look rfl (.tmp 37) (.tmp 38) _ rfl (int_keyed Tryz.underlying3) Tryz.underlying107 (z := .agg (cvs fun _ => false)) (hzC _) rfl HM5.out _ (.int .i64 s) rfl (keyOf_int_mk Tryz.underlying3 HWF.out) ?_; rw [HG.out]) | (refine wpList_store_row (by rfl) 109 (.tmp 10) (.tmp 39) (by rfl) w5.heap.size (cvs C0) (by rfl) (by rfl) 109 _ HK.out hlenC (by rfl) (cvs_all _) ?_))
      have HK6 := Lib.hid (HK.out.setRow (cvs C0))
      have hbx := below_setRow (below_alloc (Below.refl w5.heap.size w5) (.cells (cvs fun _ => false) 109)) (Nat.le_refl _) (cvs C0)
      have HB6 := Lib.hid (HB5.out.trans (hbx.mono HB5.out.size))
      have HM6 := Lib.hid (HM5.out.below hbx)
      have HO6 := Lib.hid (HO5.out.below hbx)
      have HL6 := Lib.hid (HL5.out.below hbx)
      have hgC : mb ≠ w5.heap.size := by have h := HM5.out.lt; omega
      have hgb : bk ≠ w5.heap.size := by have h := (HO5.out.lt bk rfl).2; omega
      have hgw : w.heap.size ≤ w5.heap.size := HB5.out.size
      clear hbx HK HM5 HO5 HL5 HB5 HM HO HB HR
      generalize w5.heap.size = gC at HK6 HB6 HM6 HO6 HL6 hgC hgb hgw ⊢
      generalize (w5.alloc (.cells (cvs fun _ => false) 109)).setRow gC (cvs C0) = w6 at HK6 HB6 HM6 HO6 HL6 ⊢
      have HR6 := Lib.hid HL6.out.add
      go_wp2_with (first | (refine wpList_load_cells rfl 46 (.tmp 7) rfl ⟨g4, 0, none⟩ rfl _ _ HR6.out Tryz.underlying46 rfl hlenL ?_) | (go_at_call 73; refine (cfClasses x (LockIn.of_valid HVX.out) w6).mono ?_; rintro e w7 ⟨v7, rfl, ho7, hb7⟩; obtain ⟨A7, c7, rfl, -, -⟩ := ho7.cells; have HO7 := Lib.hid ho7; have HK7 := Lib.hid (HK6.out.below hb7); have HB7 := Lib.hid (HB6.out.trans (hb7.mono HB6.out.size)); have HM7 := Lib.hid (HM6.out.below hb7); have HR7 := Lib.hid (HO6.out.below hb7); have HG7 := Lib.hid HK6.out.lt; clear ho7 hb7))
      obtain ⟨cs, hcs⟩ : ∃ cs, P52.classesL x = cs := ⟨_, rfl⟩
      obtain ⟨m, hm⟩ : ∃ m, cs.length = m := ⟨_, rfl⟩
      rw [hcs, hm]
      have HCS := Lib.hid hcs
      have HMM := Lib.hid hm
      have hm16 : m ≤ 16 := by have h := classes_len x; rw [hcs, hm] at h; exact h
      have HCM := Lib.hid (show ∀ (j : Nat) (i : Int), cs[j]? = some i → 0 ≤ i ∧ i < 16 from fun j i hj => P52.mem_classes (show i ∈ P52.classesL x from by rw [hcs]; exact List.mem_iff_getElem?.2 ⟨j, hj⟩))
      have HS7 := Lib.hid (show IntsAt w7 A7 m cs ∧ ∀ k, (Value.slice A7 m c7).ownBlock = some k → w6.heap.size ≤ k from by
        have h := HO7.out
        rw [hcs] at h
        obtain ⟨A, c, hv, hs, -⟩ := h.cells
        rw [hm] at hs hv h
        obtain ⟨rfl, -, rfl⟩ : A7 = A ∧ m = m ∧ c7 = c := by simpa using hv
        exact ⟨hs, fun k hk => (h.lt k hk).1⟩)
      clear hcs hm HO7 HK6 HM6 HO6 HL6 HR6
      clear wr
      go_loopw [43] (fun j wr => ∃ i : Nat, i ≤ m ∧ j = .int .i64 i ∧ Blk wr gC 109 (cvs (upTo C0 cs i)) ∧ w7.grownBy wr (some gC)) (fun j _ => m - (intOf j).toNat)
      case atStart => exact ⟨0, Nat.zero_le _, rfl, by rw [← cvs_congr (upTo_zero C0 cs)]; exact HK7.out, grown_refl _ _⟩
      case round =>
        obtain ⟨i, him, rfl, hkc, hgr⟩ := hrel
        have HK := Lib.hid hkc
        have HGR := Lib.hid hgr
        clear hkc hgr
        by_cases hlt2 : i < m
        · obtain ⟨b7, o7, c, rfl, hc, hc7⟩ := HS7.out.1.at_ hlt2
          have hb7 : gC < b7 := by have h := HS7.out.2 b7 rfl; have := HG7.out; omega
          have hcell := (cell_grown HGR.out (World.block_lt_of_cell? w7 _ hc7) (fun e => by injection e with e; simp at e; omega)).trans hc7
          obtain ⟨h0, h1⟩ := HCM.out i c hc
          have hk1 := cvs_cell HK.out h0 h1
          have hf1 := HK.out.frozen c.toNat
          have HX2 := Lib.hid hc
          have hlt3 := HK.out.lt
          clear hc hc7
          go_wp2
          go_roundw
          case rel =>
            refine ⟨i + 1, by omega, by go_num, ?_, grown_trans HGR.out (grownBy_setCell _ _ _ _)⟩
            have h := HK.out.put c.toNat (.bool true)
            rw [cvs_put h0 h1, cvs_congr (upTo_next HX2.out)] at h
            exact h
          case measure => simp [intOf]; omega
        · have him2 : i = m := by omega
          subst him2
          have HK8 := Lib.hid HK.out.add
          have HM8 := Lib.hid (HM7.out.kept HGR.out (fun e => hgC (by injection e)))
          have HP := Lib.hid (mapI_put (ls := all.take k) (x := x) (C := upTo C0 cs i) (fun c => by rw [upTo_all (by rw [HMM.out]; exact Nat.le_refl _), HCS.out, HS.out, HC0.out]))
          rw [HS.out, ← take_snoc HX.out] at HP
          go_wp2_with (first | (refine wpList_load_cells rfl 109 (.tmp 10) rfl ⟨gC, 0, none⟩ rfl _ _ HK8.out Tryz.underlying109 rfl hlenC ?_) | (refine wpList_mapV_put rfl (.tmp 50) (.tmp 51) (.tmp 52) _ rfl (int_keyed Tryz.underlying3) Tryz.underlying107 rfl HM8.out (by unfold maxLen; omega) (.int .i64 s) (.agg (cvs (upTo C0 cs i))) (.int .i64 s) rfl rfl (keyOf_int_mk Tryz.underlying3 HWF.out) ?_; intro w9 hm9 hg9))
          rw [HP.out] at hm9
          have HM9 := Lib.hid hm9
          have HO9 := Lib.hid ((HR7.out.kept HGR.out (.inr (fun e => hgb (by simpa [Value.ownBlock] using e)))).kept hg9 (.inr (fun e => by have h : bk = mb := (by simpa [Value.ownBlock] using e); exact HNE.out (by rw [h]; rfl))))
          have HB9 := Lib.hid ((HB7.out.grown HGR.out HB7.out.size (fun g hg => by injection hg with hg; omega)).grown hg9 (by have := HB7.out.size; have := HGR.out.size; omega) (fun g hg => by have := HMB.out; injection hg with hg; omega))
          clear hm9 hg9
          -- HERE2
          go_wp2
          go_roundw
          case rel => exact ⟨k + 1, by omega, by go_num, HM9.out, HO9.out, HB9.out⟩
          case measure => simp [intOf]; omega
    · have hkn : k = n := by omega
      subst hkn
      go_wp2
      go_ret
      have hm := HM.out
      rw [List.take_of_length_le (by rw [HN.out]; exact Nat.le_refl _)] at hm
      rw [HE.out]
      exact ⟨mb, _, rfl, hm, hn6, HB.out⟩
end Go.Proofs.YtjklhiifjnmedaaGreatDoor
namespace Go.Proofs.YtjklhiifjnmedaaGreatDoor
open Go.RowKit Go.Maps P16 P46
attribute [local go_sem] ByteArray.mk_append_mk ByteArray.extract_mk mk_index

/-- The closure answers f at the numbers cs. -/
structure AsksI (g b : Nat) (f : Int → Bool) (cs : List Int) (w : World) : Prop where
  known : ∀ (args : Array Value) (W : World), Sem.run Tryz.prog (callFunc g args) W = .ok (.enter g args) W
  ask : ∀ (x : Int) (W : World), x ∈ cs → Below w.heap.size w W → Calls Tryz.prog g #[.int .i64 x, .pointer (some ⟨b, 0, none⟩)] W fun e W' => e = .returned (.bool (f x)) ∧ Below W.heap.size W W'
def nIdx (f : Int → Bool) (ls : List Int) : Int := match ls.findIdx? f with | some i => i | none => -1
theorem nIdx_none {f : Int → Bool} {ls : List Int} (h : ∀ (j : Nat) (l : Int), ls[j]? = some l → f l = false) : nIdx f ls = -1 := by
  unfold nIdx
  have : ls.findIdx? f = none := by
    rw [List.findIdx?_eq_none_iff]
    intro l hl
    obtain ⟨j, hj⟩ := List.mem_iff_getElem?.1 hl
    exact h j l hj
  rw [this]
theorem nIdx_some {f : Int → Bool} {ls : List Int} {k : Nat} {l : Int} (hl : ls[k]? = some l) (hf : f l = true) (h : ∀ (j : Nat), j < k → ∀ l : Int, ls[j]? = some l → f l = false) : nIdx f ls = k := by
  unfold nIdx
  have : ls.findIdx? f = some k := by
    rw [List.findIdx?_eq_some_iff_getElem]
    have hk := (List.getElem?_eq_some_iff.1 hl)
    have hk1 := hk.1
    refine ⟨hk.1, by rw [hk.2]; exact hf, fun j hj => ?_⟩
    simpa using h j hj _ (List.getElem?_eq_getElem (by omega))
  rw [this]
theorem nIdx_any (f : Int → Bool) (ls : List Int) : decide (0 ≤ nIdx f ls) = ls.any f := by
  unfold nIdx
  cases h : ls.findIdx? f with
  | none =>
    rw [List.findIdx?_eq_none_iff] at h
    have : ls.any f = false := by rw [List.any_eq_false]; simpa using h
    rw [this]
    rfl
  | some i =>
    rw [List.findIdx?_eq_some_iff_getElem] at h
    obtain ⟨hi, hf, -⟩ := h
    have : ls.any f = true := List.any_eq_true.2 ⟨_, List.getElem_mem hi, hf⟩
    rw [this]
    simp
set_option maxRecDepth 100000 in
set_option maxHeartbeats 400000 in
theorem cfIndexFunc (g b0 : Nat) (f : Int → Bool) (A : Option Addr) (n c : Nat) (ls : List Int) (w : World) (h : IntsAt w A n ls) (hn : n ≤ 1000000) (hf : AsksI g b0 f ls w) :
    Calls Tryz.prog 92 #[.slice A n c, clo g b0] w fun e w' => e = .returned (.int .i64 (nIdx f ls)) ∧ Below w.heap.size w w' := by
  have H := Lib.hid h
  have HF := Lib.hid hf
  clear h hf
  go_enter Tryz.func92, Tryz.ntmps92
  go_wp2
  go_loopw [8] (fun i wr => ∃ k : Nat, k ≤ n ∧ i = .int .i64 k ∧ Hid (∀ j, j < k → ∀ l, ls[j]? = some l → f l = false) ∧ Below w.heap.size w wr) (fun i _ => n - (intOf i).toNat)
  case atStart => exact ⟨0, Nat.zero_le _, rfl, fun j hj => absurd hj (by omega), Below.refl _ _⟩
  case round =>
    obtain ⟨k, hk, rfl, hall, hbw⟩ := hrel
    have hsz := hbw.size
    by_cases hlt : k < n
    · have HW := Lib.hid (H.out.below hbw)
      obtain ⟨b, off, l, rfl, hl, hcell⟩ := HW.out.at_ hlt
      have HL := Lib.hid hl
      clear hl
      have hkn := HF.out.known
      unfold clo
      go_wp2_with fail
      refine (HF.out.ask l _ (List.mem_iff_getElem?.2 ⟨k, HL.out⟩) hbw).mono ?_
      rintro e w2 ⟨rfl, hb2⟩
      have HB2 := Lib.hid (hbw.trans (hb2.mono hsz))
      clear hb2
      cases hfl : f l with
      | true =>
        have HO := Lib.hid (nIdx_some HL.out hfl hall.out)
        clear hfl
        go_wp2
        go_ret
        exact ⟨by rw [HO.out]; rfl, HB2.out⟩
      | false =>
        have HFL := Lib.hid hfl
        clear hfl
        go_wp2
        go_roundw
        case rel =>
          refine ⟨k + 1, by omega, by go_num, ?_, HB2.out⟩
          intro j hj l2 hl2
          by_cases hjk : j = k
          · subst hjk
            rw [HL.out] at hl2
            injection hl2 with e
            rw [← e]
            exact HFL.out
          · exact hall.out j (by omega) l2 hl2
        case measure => simp [intOf]; omega
    · have HO := Lib.hid (nIdx_none (f := f) (ls := ls) fun j l hl => hall.out j (by have := H.out.len; have := (List.getElem?_eq_some_iff.1 hl).1; omega) l hl)
      go_wp2
      go_ret
      exact ⟨by rw [HO.out]; rfl, hbw⟩
set_option maxRecDepth 100000 in
theorem cfContainsFunc (g b0 : Nat) (f : Int → Bool) (A : Option Addr) (n c : Nat) (ls : List Int) (w : World) (h : IntsAt w A n ls) (hn : n ≤ 1000000) (hf : AsksI g b0 f ls w) :
    Calls Tryz.prog 72 #[.slice A n c, clo g b0] w fun e w' => e = .returned (.bool (ls.any f)) ∧ Below w.heap.size w w' := by
  have H := Lib.hid h
  have HF := Lib.hid hf
  have HO := Lib.hid (nIdx_any f ls)
  clear h hf
  go_enter Tryz.func72, Tryz.ntmps72
  go_wp2_with (go_at_call 92; refine (cfIndexFunc _ _ f _ _ _ _ _ H.out hn HF.out).mono ?_; rintro e w2 ⟨rfl, hb2⟩)
  go_ret
  exact ⟨by rw [← HO.out]; rfl, hb2⟩
set_option maxRecDepth 100000 in
theorem cfAlone1 (g : Nat) (C : Nat → Bool) (x : Int) (h0 : 0 ≤ x) (h1 : x < 16) (w : World) (h : Blk w g 109 (cvs C)) :
    Calls Tryz.prog 74 #[.int .i64 x, .pointer (some ⟨g, 0, none⟩)] w fun e w' => e = .returned (.bool (C x.toNat)) ∧ Below w.heap.size w w' := by
  have hc := cvs_cell h h0 h1
  go_enter Tryz.func74, Tryz.ntmps74
  go_wp2
  go_ret
  exact ⟨rfl, Below.refl _ _⟩
theorem asksAlone (g : Nat) (C : Nat → Bool) (cs : List Int) (w : World) (hcs : ∀ x ∈ cs, 0 ≤ x ∧ x < 16) (h : Blk w g 109 (cvs C)) : AsksI 74 g (fun x => C x.toNat) cs w where
  known := fun args W => by kernel_rfl
  ask := fun x W hx hW => cfAlone1 g C x (hcs x hx).1 (hcs x hx).2 W (h.below hW)
theorem cls_meets {all : List Lock} {l : Lock} {s c : Int} (hc : c ∈ P52.classesL l) : clsS all s c.toNat = true ↔ ∃ x ∈ all, P52.sysOf x.unit = s ∧ c ∈ P52.classesL x := by
  have h0 := P52.mem_classes hc
  unfold clsS
  rw [List.any_eq_true]
  simp only [Bool.and_eq_true, decide_eq_true_eq, List.contains_iff_mem]
  rw [show ((c.toNat : Nat) : Int) = c from by omega]
theorem meets_iff {a b : Lock} : P52.meets a b = true ↔ ∃ c ∈ P52.classesL a, c ∈ P52.classesL b := by
  unfold P52.meets
  rw [List.any_eq_true]
  simp only [List.contains_iff_mem]
theorem alone_true {all : List Lock} {l : Lock} {k : Int} (h : ∀ s, hasS all s = true → s = k ∨ ((P52.classesL l).any fun c => clsS all s c.toNat) = false) : P52.aloneB all l k = true := by
  unfold P52.aloneB
  rw [List.all_eq_true]
  intro x hx
  rw [Bool.or_eq_true]
  rcases h (P52.sysOf x.unit) (by unfold hasS; rw [List.any_eq_true]; exact ⟨x, hx, by simp⟩) with h1 | h1
  · exact .inl (by simpa using h1)
  · right
    rw [Bool.not_eq_true']
    cases hm : P52.meets l x
    · rfl
    · obtain ⟨c, hc, hcx⟩ := meets_iff.1 hm
      rw [List.any_eq_false] at h1
      exact absurd ((cls_meets hc).2 ⟨x, hx, rfl, hcx⟩) (h1 c hc)
theorem alone_false {all : List Lock} {l : Lock} {k s : Int} (hne : s ≠ k) (h : ((P52.classesL l).any fun c => clsS all s c.toNat) = true) : P52.aloneB all l k = false := by
  obtain ⟨c, hc, hcs⟩ := List.any_eq_true.1 h
  obtain ⟨x, hx, hsx, hcx⟩ := (cls_meets hc).1 hcs
  unfold P52.aloneB
  rw [List.all_eq_false]
  refine ⟨x, hx, ?_⟩
  have hm := meets_iff.2 ⟨c, hc, hcx⟩
  rw [hm, hsx]
  simpa using hne
theorem mapI_some {ls : List Lock} {s : Int} {v : Value} (h : mapI ls (.int .i64 s) = some v) : hasS ls s = true ∧ v = .agg (cvs (clsS ls s)) := by
  have h' : (if hasS ls s = true then some (Value.agg (cvs (clsS ls s))) else none) = some v := h
  split at h'
  · rename_i hs
    exact ⟨hs, (Option.some.inj h').symm⟩
  · cases h'
theorem mapI_isSome {ls : List Lock} {s : Int} : (mapI ls (.int .i64 s)).isSome = hasS ls s := by
  show (if hasS ls s = true then some (Value.agg (cvs (clsS ls s))) else none).isSome = _
  cases hasS ls s <;> rfl
/-- What has been seen is no hindrance. -/
def Seen (all : List Lock) (l : Lock) (k : Int) (left : Int → Bool) : Prop := ∀ s, hasS all s = true → left s = false → s = k ∨ ((P52.classesL l).any fun c => clsS all s c.toNat) = false
theorem Seen.next {all : List Lock} {l : Lock} {k s : Int} {left : Int → Bool} (h : Seen all l k left) (hs : s = k ∨ ((P52.classesL l).any fun c => clsS all s c.toNat) = false) : Seen all l k (fun y => left y && decide (y ≠ s)) := by
  intro y hy hl
  by_cases e : y = s
  · subst e
    exact hs
  · refine h y hy ?_
    simpa [e] using hl
set_option maxRecDepth 100000 in
set_option maxHeartbeats 4000000 in
theorem cfAlone (B b p nb : Nat) (F : P52.Fs) (vh vq : Value) (w : World) (hf : FacP w B b p nb F vh vq) (hv : Valids F.s) (hl : F.s.h.length + F.s.q.length ≤ 100000) (l : Lock) (hll : LockIn l) (k : Int) :
    Calls Tryz.prog 41 #[.pointer (some ⟨b, 0, none⟩), lv l, .int .i64 k] w fun e w' => e = .returned (.bool (P52.aloneB (F.s.h ++ F.s.q) l k)) ∧ Below w.heap.size w w' := by
  have HF := Lib.hid hf
  have HV := Lib.hid hv
  have HL := Lib.hid hl
  have HLL := Lib.hid hll
  clear hf hv hl hll
  have hlenL : (Tryz.prog.info? 46).map (·.size) = some 6 := by kernel_rfl
  have hlenC : (Tryz.prog.info? 109).map (·.size) = some 16 := by kernel_rfl
  unfold lv
  go_enter Tryz.func41, Tryz.ntmps41
  go_upto_region 1 with (fail)
  obtain ⟨w1, g, e1, e2, hb, h1⟩ := boxes1 w 46 (la l)
  unfold la at e1
  rw [e1, e2]
  have HB1 := Lib.hid hb
  have HX1 := Lib.hid h1
  have HF1 := Lib.hid (HF.out.below hb)
  clear e1 e2 hb h1
  go_wp2_with (first | (go_at_call 71; refine (cfInterests B b p nb F vh vq w1 HF1.out HV.out HL.out).mono ?_; rintro e w2 ⟨mb, n, rfl, hm2, hn, hb2⟩; have HM2 := Lib.hid hm2; have HB2 := Lib.hid (below_then HB1.out hb2); have HX2 := Lib.hid (HX1.out.below hb2); clear hm2 hb2) | (refine wpList_mapL_range rfl (.tmp 10) _ rfl (int_keyed Tryz.underlying3) Tryz.underlying107 rfl HM2.out ?_; intro w3 cnt hml hg3 hz3; have HML := Lib.hid hml; have HB3 := Lib.hid (HB2.out.grown hg3 HB2.out.size (fun k hk => by cases hk)); have HX3 := Lib.hid (HX2.out.grown hg3 (fun e => by cases e)); clear hml hg3))
  go_frame
  generalize hall : F.s.h ++ F.s.q = all at HML
  have HALL := Lib.hid hall
  clear hall
  have hmbr : w.heap.size ≤ w2.heap.size := HB2.out.size
  obtain ⟨r, hr⟩ : ∃ r, w2.heap.size = r := ⟨_, rfl⟩
  rw [hr] at HML hmbr ⊢
  have HMS := Lib.hid (show Seen all l k (fun x => (mapI all (.int .i64 x)).isSome) from fun s hs hl => by
    dsimp only at hl
    rw [mapI_isSome, hs] at hl
    cases hl)
  have HGR := Lib.hid (show r ≠ g from by have := HX2.out.lt; omega)
  clear hr hz3
  go_loopw [7] (fun _ wr => ∃ left cnt, MapL wr Tryz.prog 3 mb r n (mapI all) left cnt ∧ Seen all l k left ∧ Below w.heap.size w wr ∧ Blk wr g 46 (la l)) (fun _ wr => wr.rangeLeft mb r)
  case atStart => exact ⟨_, _, HML.out, HMS.out, HB3.out, HX3.out⟩
  case round =>
    obtain ⟨left, cnt, hml, hseen, hbw, hx⟩ := hrel
    have HM := Lib.hid hml
    have HS := Lib.hid hseen
    have HB := Lib.hid hbw
    have HX := Lib.hid hx
    clear hml hseen hbw hx
    have hgr : r ≠ g := HGR.out
    go_upto_region 4 with (first | (at_next; refine wpList_mapL_next rfl (.tmp 11) rfl Tryz.underlying3 rfl HM.out ?_ ?_; intro hdone; have HD := Lib.hid hdone; clear hdone; rotate_left 1; intro x v w5 cnt5 hlx hmx hr5 hc5 hg5 hz5 hen; obtain ⟨hsx, rfl⟩ := mapI_some hmx; have HSX := Lib.hid hsx; have HR5 := Lib.hid hr5; have HC5 := Lib.hid hc5; have HB5 := Lib.hid (HB.out.grown hg5 HB.out.size (fun k hk => by injection hk with hk; omega)); have HX5 := Lib.hid (HX.out.grown hg5 (fun e => hgr (by injection e with e; exact e.symm))); clear hlx hmx hsx hr5 hc5 hg5 hz5; rotate_left 1) | (refine wpList_store_row (by rfl) 109 (.tmp 8) (.tmp 16) (by rfl) w5.heap.size (cvs (clsS all x)) (by rfl) (by rfl) 109 _ (Blk.new w5 _ _) hlenC (by rfl) (cvs_all _) ?_))
    · go_wp2
      go_ret
      rw [HALL.out]
      exact ⟨retBool (alone_true (fun s hs => HS.out s hs (HD.out s))).symm, HB.out⟩
    · have hbx := below_setRow (below_alloc (Below.refl w5.heap.size w5) (.cells (cvs fun _ => false) 109)) (Nat.le_refl _) (cvs (clsS all x))
      have HK6 := Lib.hid ((Blk.new w5 109 (cvs fun _ => false)).setRow (cvs (clsS all x)))
      have HB6 := Lib.hid (HB5.out.trans (hbx.mono HB5.out.size))
      have HX6 := Lib.hid (HX5.out.below hbx)
      have HR6 := Lib.hid (HR5.out.below hbx)
      clear hen hbx HX5 HR5
      have hcv : ∀ C : Nat → Bool, cvs C = #[.bool (C 0), .bool (C 1), .bool (C 2), .bool (C 3), .bool (C 4), .bool (C 5), .bool (C 6), .bool (C 7), .bool (C 8), .bool (C 9), .bool (C 10), .bool (C 11), .bool (C 12), .bool (C 13), .bool (C 14), .bool (C 15)] := fun _ => rfl
      rw [hcv (fun _ => false)] at HK6 HB6 HX6 HR6
      clear hcv
      generalize w5.heap.size = gC at HK6 HB6 HX6 HR6 ⊢
      generalize (w5.alloc _).setRow gC _ = w6 at HK6 HB6 HX6 HR6 ⊢
      by_cases hxk : x = k
      · have HXK := Lib.hid hxk
        have hb1 : (x != k) = false := bne_not hxk
        clear hxk
        go_wp2
        go_roundw
        case rel => exact ⟨_, _, HR6.out, HS.out.next (.inl HXK.out), HB6.out, HX6.out⟩
        case measure =>
          rw [HR6.out.count, HM.out.count]
          exact HC5.out
      · have HXK := Lib.hid hxk
        have hb1 : (x != k) = true := bne_of hxk
        clear hxk
        obtain ⟨a0, a1, a2, a3, a4, a5⟩ := lcells HX6.out
        cases hany : ((P52.classesL l).any fun c => clsS all x c.toNat) with
        | false =>
          have HANY := Lib.hid hany
          clear hany
          go_wp2_with (first | (go_at_call 73; refine (cfClasses l HLL.out w6).mono ?_; rintro e w7 ⟨v7, rfl, ho7, hb7⟩; obtain ⟨A7, c7, rfl, hs7, hm7⟩ := ho7.cells; have HS7 := Lib.hid hs7; have HK7 := Lib.hid (HK6.out.below hb7); have HB7 := Lib.hid (HB6.out.trans (hb7.mono HB6.out.size)); have HR7 := Lib.hid (HR6.out.below hb7); have HX7 := Lib.hid (HX6.out.below hb7); have hcl := classes_len l; clear ho7 hb7 hs7 hm7) | (go_at_call 72; refine (cfContainsFunc 74 gC (fun c => clsS all x c.toNat) A7 _ c7 _ w7 HS7.out (by omega) (asksAlone gC _ _ w7 (fun c hc => P52.mem_classes hc) HK7.out)).mono ?_; rintro e w8 ⟨rfl, hb8⟩; rw [HANY.out]; have HB8 := Lib.hid (HB7.out.trans (hb8.mono HB7.out.size)); have HR8 := Lib.hid (HR7.out.below hb8); have HX8 := Lib.hid (HX7.out.below hb8); clear hb8))
          go_roundw
          case rel => exact ⟨_, _, HR8.out, HS.out.next (.inr HANY.out), HB8.out, HX8.out⟩
          case measure =>
            rw [HR8.out.count, HM.out.count]
            exact HC5.out
        | true =>
          have HANY := Lib.hid hany
          clear hany
          go_wp2_with (first | (go_at_call 73; refine (cfClasses l HLL.out w6).mono ?_; rintro e w7 ⟨v7, rfl, ho7, hb7⟩; obtain ⟨A7, c7, rfl, hs7, hm7⟩ := ho7.cells; have HS7 := Lib.hid hs7; have HK7 := Lib.hid (HK6.out.below hb7); have HB7 := Lib.hid (HB6.out.trans (hb7.mono HB6.out.size)); have HR7 := Lib.hid (HR6.out.below hb7); have HX7 := Lib.hid (HX6.out.below hb7); have hcl := classes_len l; clear ho7 hb7 hs7 hm7) | (go_at_call 72; refine (cfContainsFunc 74 gC (fun c => clsS all x c.toNat) A7 _ c7 _ w7 HS7.out (by omega) (asksAlone gC _ _ w7 (fun c hc => P52.mem_classes hc) HK7.out)).mono ?_; rintro e w8 ⟨rfl, hb8⟩; rw [HANY.out]; have HB8 := Lib.hid (HB7.out.trans (hb8.mono HB7.out.size)); have HR8 := Lib.hid (HR7.out.below hb8); have HX8 := Lib.hid (HX7.out.below hb8); clear hb8))
          go_ret
          rw [HALL.out]
          exact ⟨retBool (alone_false HXK.out HANY.out).symm, HB8.out⟩
end Go.Proofs.YtjklhiifjnmedaaGreatDoor
