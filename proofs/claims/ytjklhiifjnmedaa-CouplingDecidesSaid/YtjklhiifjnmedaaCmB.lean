/- The walks of the leaves of package coupling: exists, change.Parts, system, gone. Classes: the classes that a lock touches. The reference's Classes. -/
import Derived.Test.YtjklhiifjnmedaaCmA
import Derived.Test.YtjklhiifjnmedaaLkLeaf
import Derived.BigQuiet
import Derived.Test.YtjklhiifjnmedaaLkSame
import Derived.Lib.AtoiErrMem
import Derived.Test.YtjklhiifjnmedaaLkOf
namespace Go.Proofs.Ytjklhiifjnmedaa
open Go.RowKit P16 P46
attribute [local go_sem] ByteArray.mk_append_mk ByteArray.extract_mk mk_index

set_option maxRecDepth 100000 in
theorem cfExists (k : Int) (w : World) : Calls Try.prog 28 #[.int .i64 k] w fun e w' => e = .returned (.bool (P52.okS k)) ∧ w = w' := by
  have hv : P52.okS k = (decide (1 ≤ k) && decide (k ≤ 4)) := rfl
  by_cases h1 : 1 ≤ k <;> by_cases h2 : k ≤ 4
  all_goals
    have HV := Lib.hid hv
    clear hv
    go_enter Try.func28, Try.ntmps28
    go_wp2
    go_ret
    exact ⟨retBool (by rw [HV.out]; simp [h1, h2]), rfl⟩
/-- A number of 64 bits. -/
def InR (u : Int) : Prop := -9223372036854775808 ≤ u ∧ u ≤ 9223372036854775807
theorem InR.num {u : Int} (h : numB u = true) : InR u := by
  unfold numB at h
  simp at h
  unfold InR
  omega
set_option maxRecDepth 100000 in
set_option maxHeartbeats 1000000 in
theorem cfParts (u : Int) (hu : InR u) (w : World) : Calls Try.prog 53 #[.int .i64 u] w fun e w' => ∃ c, e = .returned (.tuple #[.int .i64 (P52.sysOf u), .int .i64 (P52.epOf u), .int .i64 c, .bool (decide (P52.sysOf u ≠ 0))]) ∧ w = w' := by
  unfold InR at hu
  have bad : ∀ (e : Ending) (w' : World), P52.sysOf u = 0 ∧ P52.epOf u = 0 → e = .returned (.tuple #[.int .i64 0, .int .i64 0, .int .i64 0, .bool false]) → w = w' → (∃ c, e = .returned (.tuple #[.int .i64 (P52.sysOf u), .int .i64 (P52.epOf u), .int .i64 c, .bool (decide (P52.sysOf u ≠ 0))]) ∧ w = w') := by
    rintro e w' ⟨h1, h2⟩ rfl rfl
    exact ⟨0, by rw [h1, h2]; rfl, rfl⟩
  have HB := Lib.hid bad
  clear bad
  by_cases h1 : u < 1
  · have HS := Lib.hid (show P52.sysOf u = 0 ∧ P52.epOf u = 0 from by unfold P52.sysOf P52.epOf; rw [if_pos (.inl h1), if_pos (.inl h1)]; exact ⟨rfl, rfl⟩)
    refine Calls.mono ?_ (fun e w' (h : e = .returned (.tuple #[.int .i64 0, .int .i64 0, .int .i64 0, .bool false]) ∧ w = w') => HB.out e w' HS.out h.1 h.2)
    go_enter Try.func53, Try.ntmps53
    go_wp2
    exact bodyPost_ret (v := .tuple #[.int .i64 0, .int .i64 0, .int .i64 0, .bool false]) (by simp [results, Try.results53, go_sem]) rfl ⟨rfl, rfl⟩
  · cases b2 : (u % 65536 == 0)
    · have h2 : u % 65536 ≠ 0 := by simpa using b2
      by_cases h3 : u / 65536 / 4 < 1
      · have HS := Lib.hid (show P52.sysOf u = 0 ∧ P52.epOf u = 0 from by unfold P52.sysOf P52.epOf; rw [if_pos (.inr (.inr (.inl (by omega)))), if_pos (.inr (.inr (.inl (by omega))))]; exact ⟨rfl, rfl⟩)
        refine Calls.mono ?_ (fun e w' (h : e = .returned (.tuple #[.int .i64 0, .int .i64 0, .int .i64 0, .bool false]) ∧ w = w') => HB.out e w' HS.out h.1 h.2)
        clear h2
        go_enter Try.func53, Try.ntmps53
        go_wp2
        exact bodyPost_ret (v := .tuple #[.int .i64 0, .int .i64 0, .int .i64 0, .bool false]) (by simp [results, Try.results53, go_sem]) rfl ⟨rfl, rfl⟩
      · by_cases h4 : 65535 < u / 65536 / 4
        · have HS := Lib.hid (show P52.sysOf u = 0 ∧ P52.epOf u = 0 from by unfold P52.sysOf P52.epOf; rw [if_pos (.inr (.inr (.inr (by omega)))), if_pos (.inr (.inr (.inr (by omega))))]; exact ⟨rfl, rfl⟩)
          refine Calls.mono ?_ (fun e w' (h : e = .returned (.tuple #[.int .i64 0, .int .i64 0, .int .i64 0, .bool false]) ∧ w = w') => HB.out e w' HS.out h.1 h.2)
          clear h2
          go_enter Try.func53, Try.ntmps53
          go_wp2
          exact bodyPost_ret (v := .tuple #[.int .i64 0, .int .i64 0, .int .i64 0, .bool false]) (by simp [results, Try.results53, go_sem]) rfl ⟨rfl, rfl⟩
        · have HS := Lib.hid (show P52.sysOf u = u / 65536 % 4 + 1 ∧ P52.epOf u = u / 65536 / 4 from by unfold P52.sysOf P52.epOf; rw [if_neg (by omega), if_neg (by omega)]; exact ⟨rfl, rfl⟩)
          refine Calls.mono ?_ (fun e w' (h : e = .returned (.tuple #[.int .i64 (u / 65536 % 4 + 1), .int .i64 (u / 65536 / 4), .int .i64 (u % 65536), .bool true]) ∧ w = w') => ⟨u % 65536, by rw [HS.out.1, HS.out.2, h.1, show decide (u / 65536 % 4 + 1 ≠ 0) = true from by simp; omega], h.2⟩)
          clear h2
          go_enter Try.func53, Try.ntmps53
          go_wp2
          exact bodyPost_ret (v := .tuple #[.int .i64 (u / 65536 % 4 + 1), .int .i64 (u / 65536 / 4), .int .i64 (u % 65536), .bool true]) (by simp [results, Try.results53, go_sem]) rfl ⟨rfl, rfl⟩
    · have h2 : u % 65536 = 0 := by simpa using b2
      have HS := Lib.hid (show P52.sysOf u = 0 ∧ P52.epOf u = 0 from by unfold P52.sysOf P52.epOf; rw [if_pos (.inr (.inl h2)), if_pos (.inr (.inl h2))]; exact ⟨rfl, rfl⟩)
      refine Calls.mono ?_ (fun e w' (h : e = .returned (.tuple #[.int .i64 0, .int .i64 0, .int .i64 0, .bool false]) ∧ w = w') => HB.out e w' HS.out h.1 h.2)
      clear h2
      go_enter Try.func53, Try.ntmps53
      go_wp2
      exact bodyPost_ret (v := .tuple #[.int .i64 0, .int .i64 0, .int .i64 0, .bool false]) (by simp [results, Try.results53, go_sem]) rfl ⟨rfl, rfl⟩
theorem cn_cell {w : World} {b p nb : Nat} {F : P52.Fs} (h : Blk w b tF (fcs F p nb)) {k : Int} (h0 : 0 ≤ k) (h4 : k ≤ 4) : w.cell? ⟨b, 5 + k.toNat, none⟩ = some (.bool (F.cn k.toNat)) := by
  obtain ⟨n, rfl⟩ : ∃ n : Nat, k = (n : Int) := ⟨k.toNat, by omega⟩
  rw [Int.toNat_natCast, h.cell]
  have : n = 0 ∨ n = 1 ∨ n = 2 ∨ n = 3 ∨ n = 4 := by omega
  rcases this with rfl | rfl | rfl | rfl | rfl <;> rfl
theorem ep_cell {w : World} {b p nb : Nat} {F : P52.Fs} (h : Blk w b tF (fcs F p nb)) {k : Int} (h0 : 0 ≤ k) (h4 : k ≤ 4) : w.cell? ⟨b, k.toNat, none⟩ = some (.int .i64 (F.ep k.toNat)) := by
  obtain ⟨n, rfl⟩ : ∃ n : Nat, k = (n : Int) := ⟨k.toNat, by omega⟩
  rw [Int.toNat_natCast, h.cell]
  have : n = 0 ∨ n = 1 ∨ n = 2 ∨ n = 3 ∨ n = 4 := by omega
  rcases this with rfl | rfl | rfl | rfl | rfl <;> rfl
set_option maxRecDepth 100000 in
set_option maxHeartbeats 1000000 in
theorem cfSystem (u : Int) (hu : InR u) (b p nb : Nat) (F : P52.Fs) (w : World) (h : Blk w b tF (fcs F p nb)) :
    Calls Try.prog 32 #[.pointer (some ⟨b, 0, none⟩), .int .i64 u] w fun e w' => e = .returned (.tuple #[.int .i64 (P52.sysOf u), .bool (P52.pres F u)]) ∧ Below w.heap.size w w' := by
  have HC := Lib.hid (cfParts u hu w)
  have HP := Lib.hid (show P52.pres F u = (decide (P52.sysOf u ≠ 0) && (F.cn (P52.sysOf u).toNat && decide (F.ep (P52.sysOf u).toNat = P52.epOf u))) from rfl)
  obtain ⟨s, hs⟩ : ∃ s, P52.sysOf u = s := ⟨_, rfl⟩
  obtain ⟨ep, he⟩ : ∃ ep, P52.epOf u = ep := ⟨_, rfl⟩
  have hle := P52.sysOf_le u
  rw [hs] at hle
  have hc := cn_cell h hle.1 hle.2
  have hep := ep_cell h hle.1 hle.2
  have HS := Lib.hid (And.intro hs he)
  clear hs he hu h
  by_cases h0 : s = 0
  · have HZ := Lib.hid h0
    clear hc hep
    go_enter Try.func32, Try.ntmps32
    go_wp2_with fail
    refine HC.out.mono ?_
    rintro e w' ⟨c, rfl, rfl⟩
    rw [HS.out.1, HS.out.2]
    subst h0
    go_wp2
    go_ret2
    rw [HP.out, HS.out.1]
    exact ⟨rfl, Below.refl _ _⟩
  · have hd : decide (s ≠ 0) = true := by simpa using h0
    cases hcn : F.cn s.toNat <;> cases hee : (F.ep s.toNat == ep)
    all_goals
      have HQ := Lib.hid (And.intro hcn hee)
      rw [hcn] at hc
      go_enter Try.func32, Try.ntmps32
      go_wp2_with fail
      refine HC.out.mono ?_
      rintro e w' ⟨c, rfl, rfl⟩
      rw [HS.out.1, HS.out.2, hd]
      go_upto_region 4 with (fail)
      go_quiet (fail)
      try go_wp2
      go_ret2
      rw [HP.out, HS.out.1, HS.out.2, HQ.out.1, hd, show decide (F.ep s.toNat = ep) = (F.ep s.toNat == ep) from by rw [Bool.eq_iff_iff]; simp, HQ.out.2]
      exact ⟨rfl, below_drewN (Below.refl _ _) _⟩
set_option maxRecDepth 100000 in
set_option maxHeartbeats 1000000 in
theorem cfGone (u k : Int) (hu : InR u) (b p nb : Nat) (F : P52.Fs) (w : World) (h : Blk w b tF (fcs F p nb)) :
    Calls Try.prog 40 #[.pointer (some ⟨b, 0, none⟩), .int .i64 u, .int .i64 k] w fun e w' => e = .returned (.bool (P52.gone F u k)) ∧ Below w.heap.size w w' := by
  have HC := Lib.hid (cfSystem u hu b p nb F w h)
  have HP := Lib.hid (show P52.gone F u k = (decide (P52.sysOf u = k) && (decide (P52.sysOf u ≠ 0) && !P52.pres F u)) from rfl)
  obtain ⟨s, hs⟩ : ∃ s, P52.sysOf u = s := ⟨_, rfl⟩
  obtain ⟨q, hq⟩ : ∃ q, P52.pres F u = q := ⟨_, rfl⟩
  have HS := Lib.hid (And.intro hs hq)
  clear hs hq hu h
  by_cases h1 : s = k <;> by_cases h0 : s = 0 <;> cases q
  all_goals
    have HZ := Lib.hid (And.intro h0 h1)
    first | (have b1 := beq_of h1) | (have b1 := beq_not h1)
    first | (have b0 := bne_of h0) | (have b0 := bne_not h0)
    clear h0 h1
    go_enter Try.func40, Try.ntmps40
    go_wp2_with fail
    refine HC.out.mono ?_
    rintro e w' ⟨rfl, hb⟩
    rw [HS.out.1, HS.out.2]
    go_wp2
    go_ret
    rw [HP.out, HS.out.1, HS.out.2]
    exact ⟨retBool (by have a := HZ.out.1; have b := HZ.out.2; first | (simp [a, b]; done) | (subst b; simp [a])), hb⟩
end Go.Proofs.Ytjklhiifjnmedaa
namespace Go.Proofs.Ytjklhiifjnmedaa
open Go.RowKit P16 P46
attribute [local go_sem] ByteArray.mk_append_mk ByteArray.extract_mk mk_index

theorem sumB_take {l : List UInt8} {k : Nat} {b : UInt8} (h : l[k]? = some b) : P52.sumB (l.take (k + 1)) = P52.sumB (l.take k) + (b.toNat : Int) := by
  rw [take_snoc h, P52.sumB_snoc]
/-- Classes of a lock whose number is not negative. -/
structure LockIn (l : Lock) : Prop where
  id0 : 0 ≤ l.id
  id1 : l.id ≤ 1099511627776
  low : l.r.low.length ≤ 1000
theorem LockIn.of_valid {l : Lock} (h : validL l = true) : LockIn l := by
  unfold validL numB at h
  simp at h
  exact ⟨by omega, by omega, by omega⟩
theorem OwnI.lit1 {B : Nat} (w : World) (x : Int) (hB : B ≤ w.heap.size) : OwnI (w.alloc (.cells #[.int .i64 x] 3)) B (.slice (some ⟨w.heap.size, 0, none⟩) 1 1) [x] :=
  ⟨rfl, .inr ⟨w.heap.size, 1, _, rfl, hB, Blk.new _ _ _, by simp, by unfold maxLen; omega, rfl, rfl⟩⟩
theorem strs_eq {a b : List UInt8} : ((⟨a.toArray⟩ : ByteArray) = ⟨b.toArray⟩) ↔ a = b := by simp
set_option maxRecDepth 100000 in
set_option maxHeartbeats 2000000 in
theorem cfClasses (l : Lock) (hl : LockIn l) (w : World) :
    Calls Try.prog 7 #[lv l] w fun e w' => ∃ v, e = .returned v ∧ OwnI w' w.heap.size v (P52.classesL l) ∧ Below w.heap.size w w' := by
  obtain ⟨i1, hi1, hy0, hy1, hy2⟩ := info_parts infoI
  have HI1 := Lib.hid hi1
  have HY0 := Lib.hid hy0
  have HY1 := Lib.hid hy1
  have HY2 := Lib.hid hy2
  clear hi1 hy0 hy1 hy2
  obtain ⟨i0, i9, hll⟩ := hl
  by_cases hs : l.r.low = l.r.high ∧ l.r.e = false
  · have HC := Lib.hid (show P52.classesL l = [(l.id % 16 + P52.sumB l.r.low) % 16] from by unfold P52.classesL P52.classesP; rw [if_pos hs]; rfl)
    have HS := Lib.hid hs
    clear hs
    unfold lv
    go_enter Try.func7, Try.ntmps7
    go_upto_region 1 with (fail)
    obtain ⟨w2, g, e1, e2, hb, hx⟩ := boxes1 w 25 (la l)
    unfold la at e1
    rw [e1, e2]
    obtain ⟨a0, a1, a2, a3, a4, a5⟩ := lcells hx
    rw [← HS.out.1] at a3
    rw [HS.out.2] at a4
    have HB := Lib.hid hb
    clear e1 e2 hb hx
    have hcv := Lib.run_convert_string_bytes (P := Try.prog) w2 9 51 5 ⟨l.r.low.toArray⟩ (u := .string) Try.underlying9 Try.underlying51 Try.underlying5
    have hbw := Lib.bytesWorld_below w2 5 ⟨l.r.low.toArray⟩
    have hcell := Lib.bytesWorld_cell w2 5 ⟨l.r.low.toArray⟩
    generalize Lib.bytesWorld w2 5 ⟨l.r.low.toArray⟩ = W1 at hcv hbw hcell
    generalize grownCap w2 (⟨l.r.low.toArray⟩ : ByteArray).size 0 5 = cap at hcv
    have hsz : (⟨l.r.low.toArray⟩ : ByteArray).size = l.r.low.length := by simp [ByteArray.size]
    rw [hsz] at hcv hcell
    have HW := Lib.hid (below_then HB.out hbw)
    have HL := Lib.hid (show ∀ (k : Nat) (b : UInt8), l.r.low[k]? = some b → W1.cell? ⟨w2.heap.size, k, none⟩ = some (.int .u8 (b.toNat : Int)) from fun k b hk => by
      have hlt := (List.getElem?_eq_some_iff.1 hk).1
      rw [hcell k hlt]
      simp [hk])
    obtain ⟨n, hn⟩ : ∃ n, l.r.low.length = n := ⟨_, rfl⟩
    rw [hn] at hll hcv
    have HN := Lib.hid hn
    generalize w2.heap.size = g2 at hcv HL
    clear hbw hcell hsz hn
    go_wp2
    go_loopw [3, 29] (fun s i wr => ∃ k : Nat, k ≤ n ∧ i = .int .i64 k ∧ s = .int .i64 (l.id % 16 + P52.sumB (l.r.low.take k)) ∧ wr = W1) (fun _ i _ => n - (intOf i).toNat)
    case atStart => exact ⟨0, Nat.zero_le _, rfl, by simp [P52.sumB], rfl⟩
    case round =>
      obtain ⟨k, hk, rfl, rfl, rfl⟩ := hrel
      have hsb := P52.sumB_le (l.r.low.take k)
      have hsl : (l.r.low.take k).length ≤ k := List.length_take_le _ _
      by_cases hlt : k < n
      · have hg : l.r.low[k]? = some (l.r.low[k]'(by rw [HN.out]; exact hlt)) := List.getElem?_eq_getElem _
        generalize l.r.low[k]'(by rw [HN.out]; exact hlt) = b at hg
        have hck := HL.out k b hg
        have HX := Lib.hid (sumB_take hg)
        have hbb := b.toNat_lt
        generalize P52.sumB (l.r.low.take k) = sm at HX hsb ⊢
        clear hg
        go_wp2
        go_roundw
        case rel => exact ⟨k + 1, by omega, by go_num, by rw [HX.out]; first | rfl | (congr 1; omega), trivial⟩
        case measure => simp [intOf]; omega
      · have hkn : k = n := by omega
        subst hkn
        go_wp2
        go_ret
        have htake : l.r.low.take k = l.r.low := List.take_of_length_le (by rw [HN.out]; exact Nat.le_refl _)
        refine ⟨_, rfl, ?_, HW.out.alloc HW.out.size _⟩
        rw [HC.out, htake]
        have e : (l.id % 16 + P52.sumB l.r.low) % 16 = (l.id + P52.sumB l.r.low) % 16 := by omega
        rw [e]
        exact OwnI.lit1 wr _ HW.out.size
  · have HC := Lib.hid (show P52.classesL l = (List.range 16).map Int.ofNat from by unfold P52.classesL P52.classesP; rw [if_neg hs])
    by_cases h1 : l.r.low = l.r.high
    · have HS := Lib.hid (show l.r.low = l.r.high ∧ l.r.e = true from ⟨h1, by cases h : l.r.e <;> simp_all⟩)
      clear hs h1
      unfold lv
      go_enter Try.func7, Try.ntmps7
      go_upto_region 1 with (fail)
      obtain ⟨w2, g, e1, e2, hb, hx⟩ := boxes1 w 25 (la l)
      unfold la at e1
      rw [e1, e2]
      obtain ⟨a0, a1, a2, a3, a4, a5⟩ := lcells hx
      rw [← HS.out.1] at a3
      rw [HS.out.2] at a4
      have HB := Lib.hid hb
      clear e1 e2 hb hx
      go_wp2
      go_loopw [6, 43] (fun v i wr => ∃ k : Nat, k ≤ 16 ∧ i = .int .i64 k ∧ OwnI wr w.heap.size v ((List.range k).map Int.ofNat) ∧ Below w.heap.size w wr) (fun _ i _ => 16 - (intOf i).toNat)
      case atStart => exact ⟨0, by omega, rfl, OwnI.nil _ _, HB.out⟩
      case round =>
        obtain ⟨k, hk, rfl, ho, hbw⟩ := hrel
        have HO := Lib.hid ho
        have HW := Lib.hid hbw
        have hsz := hbw.size
        clear ho hbw
        by_cases hlt : k < 16
        · have HX := Lib.hid (show (List.range (k + 1)).map Int.ofNat = (List.range k).map Int.ofNat ++ [(k : Int)] from by rw [List.range_succ, List.map_append]; rfl)
          have hul : ((List.range k).map Int.ofNat).length ≤ 16 := by simp; omega
          generalize (List.range k).map Int.ofNat = us at HO HX hul
          obtain ⟨A3, c3, rfl, -, -⟩ := HO.out.cells
          go_wp2_with (at_builtin; refine wpList_append_int rfl (.tmp 46) (.tmp 48) _ rfl w.heap.size i1 _ Try.underlying28 HI1.out HY0.out HY1.out HY2.out rfl _ us rfl (HO.out.alloc _) (k : Int) wr.heap.size 1 rfl (World.cell?_alloc_mark wr _ 3 (0, 0) 0) (by omega) (by simp; omega) ?_; intro v11 w11 hown11 hg11 hat11; have HO11 := Lib.hid hown11; have HB11 := Lib.hid ((HW.out.alloc hsz _).grown hg11 (by rw [World.size_alloc]; omega) (fun k hk => (HO.out.lt k hk).1)); clear hown11 hg11 hat11)
          go_roundw
          case rel => exact ⟨k + 1, by omega, by go_num, by rw [HX.out]; exact HO11.out, HB11.out⟩
          case measure => simp [intOf]; omega
        · have hkn : k = 16 := by omega
          subst hkn
          go_wp2
          go_ret
          exact ⟨_, rfl, by rw [HC.out]; exact HO.out, HW.out⟩
    · clear hs
      have hne : ¬ ((⟨l.r.low.toArray⟩ : ByteArray) = ⟨l.r.high.toArray⟩) := fun e => h1 (strs_eq.1 e)
      unfold lv
      go_enter Try.func7, Try.ntmps7
      go_upto_region 1 with (fail)
      obtain ⟨w2, g, e1, e2, hb, hx⟩ := boxes1 w 25 (la l)
      unfold la at e1
      rw [e1, e2]
      obtain ⟨a0, a1, a2, a3, a4, a5⟩ := lcells hx
      have HB := Lib.hid hb
      clear e1 e2 hb hx
      go_wp2
      go_loopw [6, 43] (fun v i wr => ∃ k : Nat, k ≤ 16 ∧ i = .int .i64 k ∧ OwnI wr w.heap.size v ((List.range k).map Int.ofNat) ∧ Below w.heap.size w wr) (fun _ i _ => 16 - (intOf i).toNat)
      case atStart => exact ⟨0, by omega, rfl, OwnI.nil _ _, HB.out⟩
      case round =>
        obtain ⟨k, hk, rfl, ho, hbw⟩ := hrel
        have HO := Lib.hid ho
        have HW := Lib.hid hbw
        have hsz := hbw.size
        clear ho hbw
        by_cases hlt : k < 16
        · have HX := Lib.hid (show (List.range (k + 1)).map Int.ofNat = (List.range k).map Int.ofNat ++ [(k : Int)] from by rw [List.range_succ, List.map_append]; rfl)
          have hul : ((List.range k).map Int.ofNat).length ≤ 16 := by simp; omega
          generalize (List.range k).map Int.ofNat = us at HO HX hul
          obtain ⟨A3, c3, rfl, -, -⟩ := HO.out.cells
          go_wp2_with (at_builtin; refine wpList_append_int rfl (.tmp 46) (.tmp 48) _ rfl w.heap.size i1 _ Try.underlying28 HI1.out HY0.out HY1.out HY2.out rfl _ us rfl (HO.out.alloc _) (k : Int) wr.heap.size 1 rfl (World.cell?_alloc_mark wr _ 3 (0, 0) 0) (by omega) (by simp; omega) ?_; intro v11 w11 hown11 hg11 hat11; have HO11 := Lib.hid hown11; have HB11 := Lib.hid ((HW.out.alloc hsz _).grown hg11 (by rw [World.size_alloc]; omega) (fun k hk => (HO.out.lt k hk).1)); clear hown11 hg11 hat11)
          go_roundw
          case rel => exact ⟨k + 1, by omega, by go_num, by rw [HX.out]; exact HO11.out, HB11.out⟩
          case measure => simp [intOf]; omega
        · have hkn : k = 16 := by omega
          subst hkn
          go_wp2
          go_ret
          exact ⟨_, rfl, by rw [HC.out]; exact HO.out, HW.out⟩
end Go.Proofs.Ytjklhiifjnmedaa
namespace Go.Proofs.Ytjklhiifjnmedaa
open Go.RowKit P16 P46
attribute [local go_sem] ByteArray.mk_append_mk ByteArray.extract_mk mk_index

theorem OwnI.empty52 {B : Nat} (w : World) (hB : B ≤ w.heap.size) : OwnI (w.alloc (.cells #[] 3)) B (.slice (some ⟨w.heap.size, 0, none⟩) 0 0) [] :=
  ⟨rfl, .inr ⟨w.heap.size, 0, _, rfl, hB, Blk.new _ _ _, by simp, by unfold maxLen; omega, rfl, rfl⟩⟩
set_option maxRecDepth 100000 in
set_option maxHeartbeats 2000000 in
theorem refClasses (l : Lock) (hl : LockIn l) (w : World) :
    Calls Try.prog 8 #[lv l] w fun e w' => ∃ v, e = .returned v ∧ OwnI w' w.heap.size v (P52.classesL l) ∧ Below w.heap.size w w' := by
  obtain ⟨i1, hi1, hy0, hy1, hy2⟩ := info_parts infoI
  have HI1 := Lib.hid hi1
  have HY0 := Lib.hid hy0
  have HY1 := Lib.hid hy1
  have HY2 := Lib.hid hy2
  clear hi1 hy0 hy1 hy2
  obtain ⟨i0, i9, hll⟩ := hl
  by_cases hs : l.r.low = l.r.high ∧ l.r.e = false
  · have HC := Lib.hid (show P52.classesL l = [(l.id % 16 + P52.sumB l.r.low) % 16] from by unfold P52.classesL P52.classesP; rw [if_pos hs]; rfl)
    have HS := Lib.hid hs
    clear hs
    unfold lv
    go_enter Try.func8, Try.ntmps8
    go_upto_region 1 with (fail)
    obtain ⟨w2, g, e1, e2, hb, hx⟩ := boxes1 w 25 (la l)
    unfold la at e1
    rw [e1, e2]
    obtain ⟨a0, a1, a2, a3, a4, a5⟩ := lcells hx
    rw [← HS.out.1] at a3
    rw [HS.out.2] at a4
    have HB := Lib.hid hb
    have HL := Lib.hid hll
    clear e1 e2 hb hx
    go_wp2
    go_loopw [5, 6] (fun s i wr => ∃ k : Nat, k ≤ l.r.low.length ∧ i = .int .i64 k ∧ s = .int .i64 (l.id % 16 + P52.sumB (l.r.low.take k)) ∧ wr = w2) (fun _ i _ => l.r.low.length - (intOf i).toNat)
    case atStart => exact ⟨0, Nat.zero_le _, rfl, by simp [P52.sumB], rfl⟩
    case round =>
      obtain ⟨k, hk, rfl, rfl, rfl⟩ := hrel
      have hsb := P52.sumB_le (l.r.low.take k)
      have hsl : (l.r.low.take k).length ≤ k := List.length_take_le _ _
      by_cases hlt : k < l.r.low.length
      · have HX := Lib.hid (sumB_take (List.getElem?_eq_getElem hlt))
        have hbb := (l.r.low[k]).toNat_lt
        generalize P52.sumB (l.r.low.take k) = sm at HX hsb ⊢
        go_wp2
        go_roundw
        case rel => exact ⟨k + 1, by omega, by go_num, by rw [HX.out]; first | rfl | (congr 1; omega), trivial⟩
        case measure => simp [intOf]; omega
      · have hkn : l.r.low.length = k := by omega
        have HKN := Lib.hid hkn
        clear hkn
        have htake := Lib.hid (show l.r.low.take k = l.r.low from List.take_of_length_le (by rw [HKN.out]; exact Nat.le_refl _))
        rw [htake.out] at hsb ⊢
        have hsb2 : P52.sumB l.r.low ≤ 255 * 1000 := by have := HL.out; omega
        clear hsl
        go_wp2
        go_ret
        refine ⟨_, rfl, ?_, HB.out.alloc HB.out.size _⟩
        rw [HC.out]
        have e : (l.id % 16 + P52.sumB l.r.low) % 16 = (l.id + P52.sumB l.r.low) % 16 := by omega
        rw [e]
        exact OwnI.lit1 _ _ HB.out.size
  · have HC := Lib.hid (show P52.classesL l = (List.range 16).map Int.ofNat from by unfold P52.classesL P52.classesP; rw [if_neg hs])
    have hcase : l.r.e = true ∨ (l.r.e = false ∧ l.r.low ≠ l.r.high) := by
      cases he : l.r.e
      · exact .inr ⟨rfl, fun e => hs ⟨e, he⟩⟩
      · exact .inl rfl
    clear hs
    rcases hcase with he | ⟨he, h1⟩
    all_goals
      first
        | (have hne : (l.r.low == l.r.high) = false := by simpa using h1)
        | skip
      have HE := Lib.hid he
      clear he
      unfold lv
      go_enter Try.func8, Try.ntmps8
      go_upto_region 1 with (fail)
      obtain ⟨w2, g, e1, e2, hb, hx⟩ := boxes1 w 25 (la l)
      unfold la at e1
      rw [e1, e2]
      obtain ⟨a0, a1, a2, a3, a4, a5⟩ := lcells hx
      rw [HE.out] at a4
      have HB := Lib.hid hb
      clear e1 e2 hb hx
      go_wp2
      go_loopw [3, 4] (fun v i wr => ∃ k : Nat, k ≤ 16 ∧ i = .int .i64 k ∧ OwnI wr w.heap.size v ((List.range k).map Int.ofNat) ∧ Below w.heap.size w wr) (fun _ i _ => 16 - (intOf i).toNat)
      case atStart => exact ⟨0, by omega, rfl, OwnI.empty52 _ HB.out.size, HB.out.alloc HB.out.size _⟩
      case round =>
        obtain ⟨k, hk, rfl, ho, hbw⟩ := hrel
        have HO := Lib.hid ho
        have HW := Lib.hid hbw
        have hsz := hbw.size
        clear ho hbw
        by_cases hlt : k < 16
        · have HX := Lib.hid (show (List.range (k + 1)).map Int.ofNat = (List.range k).map Int.ofNat ++ [(k : Int)] from by rw [List.range_succ, List.map_append]; rfl)
          have hul : ((List.range k).map Int.ofNat).length ≤ 16 := by simp; omega
          generalize (List.range k).map Int.ofNat = us at HO HX hul
          obtain ⟨A3, c3, rfl, -, -⟩ := HO.out.cells
          go_wp2_with (at_builtin; refine wpList_append_int rfl (.tmp 24) (.tmp 26) _ rfl w.heap.size i1 _ Try.underlying28 HI1.out HY0.out HY1.out HY2.out rfl _ us rfl (HO.out.alloc _) (k : Int) wr.heap.size 1 rfl (World.cell?_alloc_mark wr _ 3 (0, 0) 0) (by omega) (by simp; omega) ?_; intro v11 w11 hown11 hg11 hat11; have HO11 := Lib.hid hown11; have HB11 := Lib.hid ((HW.out.alloc hsz _).grown hg11 (by rw [World.size_alloc]; omega) (fun k hk => (HO.out.lt k hk).1)); clear hown11 hg11 hat11)
          go_roundw
          case rel => exact ⟨k + 1, by omega, by go_num, by rw [HX.out]; exact HO11.out, HB11.out⟩
          case measure => simp [intOf]; omega
        · have hkn : k = 16 := by omega
          subst hkn
          go_wp2
          go_ret
          exact ⟨_, rfl, by rw [HC.out]; exact HO.out, HW.out⟩
end Go.Proofs.Ytjklhiifjnmedaa
