/- The walk of dasdref11.Block: it returns the block of the records. -/
import Derived.Test.YtogfdodnfeggfaaPack
import Derived.Test.YtogfdodnfeggfaaFree
namespace Go.Proofs.Ytogfdodnfeggfaa
open Go.RowKit P11 Go.Sort
attribute [local go_sem] ByteArray.mk_append_mk ByteArray.extract_mk mk_index

theorem length_fm_le {ls : List Bs} (h : ∀ r ∈ ls, r.length ≤ 1100) : (fm ls).length ≤ 1104 * ls.length := by
  induction ls with
  | nil => simp [fm]
  | cons r ls ih =>
    rw [fm_cons, List.length_append, length_form (h r (by simp))]
    have := ih (fun x hx => h x (by simp [hx]))
    have := h r (by simp)
    simp
    omega
theorem fm_take {ss : List Bs} {k : Nat} {r : Bs} (h : ss[k]? = some r) : fm (ss.take (k + 1)) = fm (ss.take k) ++ form r := by
  rw [take_snoc h, fm_snoc]
theorem fm_take_le (ss : List Bs) (k : Nat) : (fm (ss.take k)).length ≤ (fm ss).length := by
  conv => rhs; rw [← List.take_append_drop k ss]
  unfold fm
  rw [List.flatMap_append, List.length_append]
  omega
theorem length_fm_take {ss : List Bs} (k : Nat) (h : ∀ r ∈ ss, r.length ≤ 1100) : (fm (ss.take k)).length ≤ 1104 * k := by
  have h1 := length_fm_le (ls := ss.take k) (fun r hr => h r (List.mem_of_mem_take hr))
  have h2 : (ss.take k).length ≤ k := List.length_take_le _ _
  have h3 : 1104 * (ss.take k).length ≤ 1104 * k := Nat.mul_le_mul_left _ h2
  omega

set_option maxHeartbeats 1000000 in
theorem block30' (A : Option Addr) (n c : Nat) (ss : List Bs) (w : World) (h : StrsAt w A n ss) (hn : n ≤ 1000000) (ht : (fm ss).length ≤ 60000) (hs : ∀ r ∈ ss, r.length ≤ 1100) :
    Calls Try.prog 30 #[.slice A n c] w fun e w' => e = .returned (.string ⟨(block ss).toArray⟩) ∧ Below w.heap.size w w' := by
  have H := Lib.hid h
  have HS := Lib.hid hs
  have HT := Lib.hid ht
  clear h hs ht
  go_enter Try.func30, Try.ntmps30
  go_wp2
  go_loopw [3, 4] (fun s i wr => ∃ (k : Nat) (f : Bs), k ≤ n ∧ i = .int .i64 k ∧ s = .string ⟨f.toArray⟩ ∧ Hid (f = fm (ss.take k)) ∧ f.length ≤ 60000 ∧ Below w.heap.size w wr) (fun _ i _ => n - (intOf i).toNat)
  case atStart => exact ⟨0, [], Nat.zero_le _, rfl, rfl, rfl, by simp, Below.refl _ _⟩
  case round =>
    obtain ⟨k, f, hk, rfl, rfl, hf, hfl, hbw⟩ := hrel
    by_cases hlt : k < n
    · obtain ⟨b, off, s, rfl, hs, hc⟩ := (H.out.below hbw).at_ hlt
      have hsl : s.length ≤ 1100 := HS.out s (List.mem_of_getElem? hs)
      have hwl : (wordI (4 + (s.length : Int))).length ≤ 4 := by
        rw [wordI_len]
        exact length_word_le _
      have HG := Lib.hid hs
      have hcr : ∀ d os, (grow (redrawn wr d) os).cell? ⟨b, off + k, none⟩ = some (.string ⟨s.toArray⟩) := fun d os => cell_regrown hc d os
      clear hs
      have hq1 : ¬ 9223372036854775807 < f.length + (wordI (4 + (s.length : Int))).length := by omega
      have hq2 : ¬ 9223372036854775807 < f.length + (wordI (4 + (s.length : Int))).length + s.length := by omega
      have hwr : IntKind.i64.wrap (4 + (s.length : Int)) = 4 + (s.length : Int) := IntWalk.i64_in _ (by omega)
      go_wp2
      refine wp_region_quiet_below (by kernel_rfl) (by kernel_rfl) ?_
      repeat (quiet_step ((go_at_call 20; refine Calls.regrown_of (word20 _ _))))
      refine wpQuiet_nil ?_
      intro w2 hw2
      obtain ⟨p, rfl⟩ := hw2
      have hb2 := below_regrown wr p.d p.os
      clear hcr hc hwr hq1 hq2
      generalize grow (redrawn wr p.d) p.os = w2 at *
      go_wp2
      go_roundw
      case rel =>
        refine ⟨k + 1, f ++ form s, by omega, by go_num, ?_, ?_, ?_, below_then_ hbw hb2⟩
        · rw [wordI_len]
          exact strEq rfl
        · show _ = _
          rw [hf.out, fm_take HG.out]
        · have h1 := fm_take_le ss (k + 1)
          rw [fm_take HG.out, ← hf.out] at h1
          have := HT.out
          omega
      case measure => simp [intOf]; omega
    · have hkn : k = n := by omega
      subst hkn
      have hwl : (wordI (4 + (f.length : Int))).length ≤ 4 := by
        rw [wordI_len]
        exact length_word_le _
      have HV : Hid (block ss = wordI (4 + (f.length : Int)) ++ f) := by
        show _ = _
        rw [wordI_len, hf.out, List.take_of_length_le (by rw [H.out.len]; omega)]
        rfl
      go_wp2_with (go_at_call 20; refine (word20 _ _).mono ?_; rintro e w1 ⟨rfl, hb1⟩)
      go_ret
      exact ⟨retStr HV.out.symm, below_then_ hbw hb1⟩

theorem block30 (A : Option Addr) (n c : Nat) (ss : List Bs) (w : World) (h : StrsAt w A n ss) (hn : n ≤ 50) (hs : ∀ r ∈ ss, r.length ≤ 1100) :
    Calls Try.prog 30 #[.slice A n c] w fun e w' => e = .returned (.string ⟨(block ss).toArray⟩) ∧ Below w.heap.size w w' :=
  block30' A n c ss w h (by omega) (by have := length_fm_le hs; have := h.len; omega) hs

end Go.Proofs.Ytogfdodnfeggfaa
