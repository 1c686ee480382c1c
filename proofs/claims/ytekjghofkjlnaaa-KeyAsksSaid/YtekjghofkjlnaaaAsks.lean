/- The walk of KeyAsks: it returns true. -/
import Derived.Test.YtekjghofkjlnaaaDescs
import Derived.RegionTactic
import Derived.ChangeAlike
namespace Go.Proofs.Ytekjghofkjlnaaa
open Go.RowKit P16 Go.Sort
attribute [local go_sem] ByteArray.mk_append_mk ByteArray.extract_mk mk_index leq_bs not_lt_bs

theorem run_byte1 (w : World) (c : UInt8) : (convert 47 9 (.slice (some ⟨w.heap.size, 0, none⟩) 1 1)).run Try.prog (w.alloc (.cells #[.int .u8 (((c.toNat : Int) + 1) % 256)] 5)).drew = .ok (.string ⟨#[c + 1]⟩) (w.alloc (.cells #[.int .u8 (((c.toNat : Int) + 1) % 256)] 5)).drew := by
  refine run_convert_bytes_back (P := Try.prog) _ 47 9 5 _ 1 [c + 1] Try.underlying47 Try.underlying5 Try.underlying9 (fun j hj => ?_)
  obtain rfl : j = 0 := by simp at hj; omega
  have h : (w.alloc (.cells #[.int .u8 (((c.toNat : Int) + 1) % 256)] 5)).cell? ⟨w.heap.size, 0, none⟩ = some (.int .u8 (((c.toNat : Int) + 1) % 256)) := World.cell?_alloc_mark w _ 5 (0, 0) 0
  rw [Addr.add_lit]
  refine Eq.trans h ?_
  have : (c + 1).toNat = (c.toNat + 1) % 256 := by simp
  simp only [List.getElem_cons_zero, this]
  simp
theorem set_eq_self {l : Bs} {n : Nat} {c : UInt8} (hn : n < l.length) (hc : c ≠ l[n]) : l.set n c ≠ l := by
  intro h
  have := congrArg (fun x : Bs => x[n]?) h
  simp [hn] at this
  exact hc this
theorem window_set (r : Bs) (i p q : Nat) (c : UInt8) (hi : i < r.length) (hc : c ≠ r[i]) (hq : p + q ≤ r.length) : (((r.set i c).drop p).take q = (r.drop p).take q) ↔ ¬ (p ≤ i ∧ i < p + q) := by
  rw [List.drop_set]
  by_cases h1 : i < p
  · rw [if_pos h1]
    simp
    omega
  · rw [if_neg h1, List.take_set]
    by_cases h2 : i < p + q
    · constructor
      · intro h
        exfalso
        exact set_eq_self (by simp; omega) (by simp [show p + (i - p) = i from by omega]; exact hc) h
      · omega
    · constructor
      · omega
      · intro _
        exact List.set_eq_of_length_le (by simp; omega)
theorem ofB_set (d : DS) (r : Bs) (i : Nat) (c : UInt8) (hi : i < r.length) (hc : c ≠ r[i]) :
    (ofB d (r.set i c)).2 = (ofB d r).2 ∧ ((ofB d r).2 ≠ 0 → (ofB d (r.set i c)).1 = (ofB d r).1) ∧
    ((ofB d r).2 = 0 → 0 ≤ d.kat ∧ 1 ≤ d.klen ∧ d.kat + d.klen ≤ 200 ∧ ((ofB d (r.set i c)).1 = (ofB d r).1 ↔ ¬ (d.kat ≤ i ∧ (i : Int) < d.kat + d.klen))) := by
  unfold ofB
  rw [List.length_set]
  by_cases h1 : validB d = false
  · simp [h1]
  by_cases h2 : d.org = 3
  · by_cases h3 : d.kat + d.klen ≤ r.length ∧ (r.length : Int) ≤ d.len
    · rw [if_neg h1, if_neg h1, if_neg (by omega), if_neg (by omega), if_neg (by omega), if_neg (by omega)]
      have hk := valid_keyed (by simpa using h1) h2
      refine ⟨rfl, fun h => absurd rfl h, fun _ => ⟨hk.1, hk.2.1, by omega, ?_⟩⟩
      have := window_set r i d.kat.toNat d.klen.toNat c hi hc (by omega)
      dsimp only
      rw [this]
      omega
    · simp [h1, h2, h3]
  · rw [if_neg h1, if_neg h1, if_pos h2, if_pos h2]
    simp
theorem other_eq (r : Bs) (i : Nat) (hi : i < r.length) : r.take i ++ (r[i] + 1) :: (r.drop (i + 1)).take (r.length - (i + 1)) = r.set i (r[i] + 1) := by
  rw [List.take_of_length_le (l := r.drop (i + 1)) (by simp), List.set_eq_take_append_cons_drop, if_pos hi]
theorem byte_succ_ne (c : UInt8) : c + 1 ≠ c := by
  intro h
  have := congrArg UInt8.toNat h
  simp at this
  have := c.toNat_lt
  omega
theorem below_drew1 {B : Nat} {a w : World} (h : Below B a w) : Below B a w.drew := below_drewN h 1
set_option maxRecDepth 100000 in
set_option maxHeartbeats 1000000 in
theorem asks7_at (d : DS) (r : Bs) (i : Nat) (w : World) (hr : r.length ≤ 300) (hi : i < r.length) (hi2 : i < 256) : Calls Try.prog 7 #[dv d, .string ⟨r.toArray⟩, .int .u8 i] w fun e w' => e = .returned (.bool true) ∧ Below w.heap.size w w' := by
  obtain ⟨id, org, fmt, len, blk, kat, klen, itv, area, fint, farea, base, aat, alen, uniq, cls, vol, own, cre, exp, arch⟩ := d
  unfold dv
  have hr' : r.length ≤ 301 := by omega
  have C26 := fun w => of26' id org fmt len blk kat klen itv area fint farea base aat alen uniq cls vol own cre exp arch r w hr'
  have C2 := fun w => of26' id org fmt len blk kat klen itv area fint farea base aat alen uniq cls vol own cre exp arch (r.take i ++ (r[i] + 1) :: (r.drop (i + 1)).take (r.length - (i + 1))) w (by rw [other_eq r i hi]; simpa using hr')
  have hS := ofB_set ⟨id, org, fmt, len, blk, kat, klen, itv, area, fint, farea, base, aat, alen, uniq, cls, vol, own, cre, exp, arch⟩ r i (r[i] + 1) hi (byte_succ_ne _)
  rw [← other_eq r i hi] at hS
  generalize ofB ⟨id, org, fmt, len, blk, kat, klen, itv, area, fint, farea, base, aat, alen, uniq, cls, vol, own, cre, exp, arch⟩ r = X at C26 hS
  generalize ofB ⟨id, org, fmt, len, blk, kat, klen, itv, area, fint, farea, base, aat, alen, uniq, cls, vol, own, cre, exp, arch⟩ (r.take i ++ (r[i] + 1) :: (r.drop (i + 1)).take (r.length - (i + 1))) = Y at C2 hS
  obtain ⟨x1, x2⟩ := X
  obtain ⟨y1, y2⟩ := Y
  dsimp only at C26 C2 hS
  obtain ⟨rfl, hS1, hS2⟩ := hS
  have D2 := Lib.hid C2
  have HS1 := Lib.hid hS1
  have HS2 := Lib.hid hS2
  clear C2 hS1 hS2
  have D26 := Lib.hid C26
  clear C26
  go_enter Try.func7, Try.ntmps7
  go_wp2_with fail
  refine (awake10 _).mono ?_
  rintro e w1 ⟨rfl, hb1⟩
  have M := Lib.hid ((Blk.new w 41 #[.int .i64 id, .int .i64 org, .int .i64 fmt, .int .i64 len, .int .i64 blk, .int .i64 kat, .int .i64 klen, .int .i64 itv, .int .i64 area, .int .i64 fint, .int .i64 farea, .int .i64 base, .int .i64 aat, .int .i64 alen, .bool uniq, .int .i64 cls, .string ⟨vol.toArray⟩, .string ⟨own.toArray⟩, .int .i64 cre, .int .i64 exp, .bool arch]).below hb1)
  go_wp2_with (refine wpList_load_row rfl 41 (.tmp 3) rfl w.heap.size rfl 41 _ (0, 0) _ M.out Try.underlying41 rfl (by kernel_rfl) ?_)
  refine (D26.out _).mono ?_
  rintro e w2 ⟨rfl, hb2⟩
  have M := Lib.hid (M.out.below hb2)
  have hi1 : i ≤ r.length := by omega
  have hi3 : i + 1 ≤ r.length := by omega
  have hcv := run_byte1 w2 r[i]
  go_wp2
  go_region
  have M := Lib.hid (M.out.alloc (.cells #[.int .u8 (((r[i].toNat : Int) + 1) % 256)] 5)).drew
  clear hcv
  go_wp2_with (refine wpList_load_row rfl 41 (.tmp 3) rfl w.heap.size rfl 41 _ (0, 0) _ M.out Try.underlying41 rfl (by kernel_rfl) ?_)
  refine (D2.out _).mono ?_
  rintro e w3 ⟨rfl, hb3⟩
  have M := Lib.hid (M.out.below hb3)
  have k5 : w3.cell? ⟨w.heap.size, 5, none⟩ = some (.int .i64 kat) := M.out.cell 5
  have k6 : w3.cell? ⟨w.heap.size, 6, none⟩ = some (.int .i64 klen) := M.out.cell 6
  by_cases he : y2 = 0
  · obtain ⟨z1, z2, z3, z4⟩ := HS2.out he
    subst he
    by_cases hin : kat ≤ i ∧ (i : Int) < kat + klen
    · have hne : (x1 == y1) = false := by
        rw [beq_eq_false_iff_ne]
        intro h
        exact z4.1 h.symm hin
      have hne' : ¬ x1 = y1 := by simpa using hne
      have HZ := Lib.hid z4
      obtain ⟨n1, n2⟩ := hin
      clear z4
      go_wp2
      all_goals
        go_ret
        exact ⟨retBool (by simp_all), by repeat (first | exact Below.refl _ _ | refine below_alloc ?_ _ | refine below_drewN ?_ _ | refine below_drew1 ?_ | refine below_then ?_ (by assumption))⟩
    · have heq : x1 = y1 := (z4.2 hin).symm
      subst heq
      clear z4
      go_wp2
      all_goals
        go_ret
        exact ⟨retBool (by simp_all), by repeat (first | exact Below.refl _ _ | refine below_alloc ?_ _ | refine below_drewN ?_ _ | refine below_drew1 ?_ | refine below_then ?_ (by assumption))⟩
  · have heq : x1 = y1 := (HS1.out he).symm
    subst heq
    go_wp2
    all_goals
      go_ret
      exact ⟨retBool (by simp_all), by repeat (first | exact Below.refl _ _ | refine below_alloc ?_ _ | refine below_drewN ?_ _ | refine below_drew1 ?_ | refine below_then ?_ (by assumption))⟩
set_option maxRecDepth 100000 in
set_option maxHeartbeats 1000000 in
theorem asks7 (d : DS) (r : Bs) (n : Int) (w : World) (h0 : 0 ≤ n) (h1 : n < 256) : Calls Try.prog 7 #[dv d, .string ⟨r.toArray⟩, .int .u8 n] w fun e w' => e = .returned (.bool true) ∧ Below w.heap.size w w' := by
  obtain ⟨i, rfl⟩ := Int.eq_ofNat_of_zero_le h0
  by_cases hr : r.length ≤ 300
  · by_cases hi : i < r.length
    · exact asks7_at d r i w hr hi (by omega)
    · have hi2 : r.length ≤ i := by omega
      obtain ⟨id, org, fmt, len, blk, kat, klen, itv, area, fint, farea, base, aat, alen, uniq, cls, vol, own, cre, exp, arch⟩ := d
      unfold dv
      go_enter Try.func7, Try.ntmps7
      go_wp2_with fail
      refine (awake10 _).mono ?_
      rintro e w1 ⟨rfl, hb1⟩
      go_wp2
      go_ret
      exact ⟨rfl, by repeat (first | exact Below.refl _ _ | refine below_alloc ?_ _ | refine below_drewN ?_ _ | refine below_then ?_ (by assumption))⟩
  · have hr2 : 300 < (r.length : Int) := by omega
    obtain ⟨id, org, fmt, len, blk, kat, klen, itv, area, fint, farea, base, aat, alen, uniq, cls, vol, own, cre, exp, arch⟩ := d
    unfold dv
    go_enter Try.func7, Try.ntmps7
    go_wp2_with fail
    refine (awake10 _).mono ?_
    rintro e w1 ⟨rfl, hb1⟩
    go_wp2
    go_ret
    exact ⟨rfl, by repeat (first | exact Below.refl _ _ | refine below_alloc ?_ _ | refine below_drewN ?_ _ | refine below_then ?_ (by assumption))⟩
end Go.Proofs.Ytekjghofkjlnaaa
