/- A facility that is lost and rebuilt from what its systems export; a facility beside a manager: plain Lean, no program in sight. -/
import Derived.Test.YtjklhiifjnmedaaCmA
namespace P52
open P16 P46
theorem lost_request (F : Fs) (x : Lock) (h : F.lost = true) : (request F x).1 = F ∧ (request F x).2 ≠ 0 ∧ (request F x).2 ≠ 15 := by
  unfold request
  by_cases h1 : validL x = false ∨ sysOf x.unit = 0
  · rw [if_pos h1]
    exact ⟨rfl, (by simp), (by simp)⟩
  · rw [if_neg h1]
    by_cases h2 : pres F x.unit = false
    · rw [if_pos h2]
      exact ⟨rfl, (by simp), (by simp)⟩
    · rw [if_neg h2, if_pos h]
      exact ⟨rfl, (by simp), (by simp)⟩
theorem lose_exports (F : Fs) : exportsL (lose F) = [] := rfl
theorem mem_export {F : Fs} {k : Int} {l : Lock} : l ∈ exportL F k ↔ l ∈ F.s.h ∧ sysOf l.unit = k ∧ pres F l.unit = true := by
  unfold exportL
  rw [List.mem_filter]
  simp
theorem mem_exports {F : Fs} {l : Lock} : l ∈ exportsL F → l ∈ F.s.h ∧ pres F l.unit = true := by
  unfold exportsL
  simp only [List.mem_append, mem_export]
  rintro (((h | h) | h) | h) <;> exact ⟨h.1, h.2.2⟩
theorem rebuilt_ok {F : Fs} (hv : Valids F.s) (hc : Compat F.s.h) (G : Fs) (hep : G.ep = F.ep) (hcn : G.cn = F.cn) (hl : G.lost = true) : rebuild G (exportsL F) = (⟨G.ep, G.cn, ⟨exportsL F, []⟩, false, G.fast⟩, 0) := by
  have hok : okTo G (exportsL F) (exportsL F).length = true := by
    refine okTo_of (fun i x hx => ?_) _
    have hm := mem_exports (List.mem_iff_getElem?.2 ⟨i, hx⟩)
    refine ⟨hv.1 x hm.1, ?_, fun y hy => hc x hm.1 y (mem_exports (List.mem_of_mem_take hy)).1⟩
    have := hm.2
    unfold pres at this ⊢
    rw [hep, hcn]
    exact this
  unfold rebuild
  rw [if_neg (by rw [hl]; decide), if_pos hok, newL_id (fun l hl => hv.1 l (mem_exports hl).1) (fun a ha b hb => hc a (mem_exports ha).1 b (mem_exports hb).1)]
theorem rebuilt_export {F G : Fs} (hep : G.ep = F.ep) (hcn : G.cn = F.cn) (hs : G.s.h = exportsL F) {k : Int} : exportL G k = (if k = 1 then exportL F 1 else []) ++ (if k = 2 then exportL F 2 else []) ++ (if k = 3 then exportL F 3 else []) ++ (if k = 4 then exportL F 4 else []) := by
  have key : ∀ j : Int, (exportL F j).filter (fun l => decide (sysOf l.unit = k) && pres G l.unit) = if k = j then exportL F j else [] := by
    intro j
    split
    · rename_i h
      subst h
      refine List.filter_eq_self.2 fun l hl => ?_
      obtain ⟨_, h1, h2⟩ := mem_export.1 hl
      have : pres G l.unit = pres F l.unit := by unfold pres; rw [hep, hcn]
      rw [this, h2]
      simp [h1]
    · rename_i h
      refine List.filter_eq_nil_iff.2 fun l hl => ?_
      obtain ⟨_, h1, h2⟩ := mem_export.1 hl
      simp only [Bool.and_eq_true, decide_eq_true_eq, not_and]
      intro e
      exact absurd (e.symm.trans h1) h
  conv => lhs; unfold exportL
  rw [hs]
  unfold exportsL
  rw [List.filter_append, List.filter_append, List.filter_append, key, key, key, key]
theorem rebuilt_exports {F G : Fs} (hep : G.ep = F.ep) (hcn : G.cn = F.cn) (hs : G.s.h = exportsL F) : exportsL G = exportsL F := by
  conv => lhs; unfold exportsL
  rw [rebuilt_export hep hcn hs, rebuilt_export hep hcn hs, rebuilt_export hep hcn hs, rebuilt_export hep hcn hs]
  simp [exportsL]
/-- All systems are connected, in the epoch 1, and nothing was lost. -/
structure All1 (F : Fs) : Prop where
  ep : ∀ k : Nat, 1 ≤ k → k ≤ 4 → F.ep k = 1
  cn : ∀ k : Nat, 1 ≤ k → k ≤ 4 → F.cn k = true
  lost : F.lost = false
theorem All1.pres {F : Fs} (h : All1 F) {x y : Int} (hx : 0 ≤ x ∧ x ≤ 3) (hy : 0 ≤ y ∧ y ≤ 3) : sysOf ((4 + x) * 65536 + 1 + y) ≠ 0 ∧ P52.pres F ((4 + x) * 65536 + 1 + y) = true := by
  obtain ⟨h1, h2⟩ := sysOf_make (s := x + 1) (e := 1) (c := 1 + y) (by omega) (by omega) (by omega)
  have e : (1 * 4 + (x + 1) - 1) * 65536 + (1 + y) = (4 + x) * 65536 + 1 + y := by omega
  rw [e] at h1 h2
  refine ⟨by rw [h1]; omega, ?_⟩
  unfold P52.pres
  rw [h1, h2, h.cn _ (by omega) (by omega), h.ep _ (by omega) (by omega)]
  simp
  omega
theorem All1.request {F : Fs} (h : All1 F) {l : Lock} (hs : sysOf l.unit ≠ 0) (hp : P52.pres F l.unit = true) : (request F l).1.s = (P46.request F.s l).1 ∧ (request F l).2 = (P46.request F.s l).2 ∧ All1 (request F l).1 := by
  unfold P52.request
  by_cases hv : validL l = false
  · rw [if_pos (.inl hv)]
    unfold P46.request
    rw [if_pos hv]
    exact ⟨rfl, rfl, h⟩
  · rw [if_neg (fun e => e.elim hv hs), if_neg (by rw [hp]; decide), if_neg (by rw [h.lost]; decide)]
    exact ⟨rfl, rfl, h.ep, h.cn, h.lost⟩
theorem All1.withS {F : Fs} (h : All1 F) (s : St) : All1 (withS F s) := ⟨h.ep, h.cn, h.lost⟩
/-- The facility after the first n systems have connected. -/
def conn1 (n : Nat) : Fs := ⟨fun i => if 1 ≤ i ∧ i ≤ n then 1 else 0, fun i => decide (1 ≤ i) && decide (i ≤ n), ⟨[], []⟩, false, 0⟩
theorem conn1_zero : conn1 0 = fs0 := by
  unfold conn1 fs0
  congr 1
  · funext i
    rw [if_neg (by omega)]
  · funext i
    cases i with
    | zero => rfl
    | succ i => simp
theorem conn1_next {n : Nat} (h : n < 4) : connect (conn1 n) (n + 1 : Nat) 1 = (conn1 (n + 1), 0) := by
  unfold connect
  have e1 : (((n + 1 : Nat) : Int)).toNat = n + 1 := by simp
  rw [if_neg (by unfold okS; simp; omega), e1, if_neg (by unfold conn1; simp), if_neg (by unfold conn1; dsimp only; rw [if_neg (by omega)]; decide)]
  congr 1
  unfold conn1
  congr 1
  · funext i
    unfold setAt
    by_cases h1 : i = n + 1
    · rw [if_pos h1, if_pos (by omega)]
    · rw [if_neg h1]
      dsimp only
      by_cases h2 : 1 ≤ i ∧ i ≤ n
      · rw [if_pos h2, if_pos (by omega)]
      · rw [if_neg h2, if_neg (by omega)]
  · funext i
    unfold setAt
    by_cases h1 : i = n + 1
    · rw [if_pos h1]; subst h1; simp
    · rw [if_neg h1]
      rw [Bool.eq_iff_iff]
      simp
      omega
theorem conn1_all : All1 (conn1 4) := ⟨fun k h1 h2 => by unfold conn1; dsimp only; rw [if_pos ⟨h1, h2⟩], fun k h1 h2 => by unfold conn1; simp [h1, h2], rfl⟩
end P52
