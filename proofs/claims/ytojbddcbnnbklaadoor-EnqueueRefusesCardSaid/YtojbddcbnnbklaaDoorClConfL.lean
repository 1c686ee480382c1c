/- The laws' own conflict of two lists of locks. -/
import Derived.Test.YtojbddcbnnbklaaDoorClRun
namespace Go.Proofs.YtojbddcbnnbklaaDoor
open Go.RowKit P43
attribute [local go_sem] ByteArray.mk_append_mk ByteArray.extract_mk mk_index

def clashN (p q : P43.Nm × Bool) : Bool := decide (p.1 = q.1) && (p.2 || q.2)
def confL (a b : List (P43.Nm × Bool)) : Bool := a.any fun p => b.any fun q => clashN p q
theorem confL_conf (i j : Int) (a b : List (P43.Nm × Bool)) : confL a b = conf ⟨i, a⟩ ⟨j, b⟩ := rfl
theorem any_false {α : Type} {f : α → Bool} {xs : List α} {n : Nat} (hn : xs.length = n) (h : ∀ (j : Nat) (a : α), j < n → xs[j]? = some a → f a = false) : xs.any f = false := by
  rw [List.any_eq_false]
  intro a ha
  obtain ⟨j, hj⟩ := List.mem_iff_getElem?.1 ha
  simp [h j a (by have := (List.getElem?_eq_some_iff.1 hj).1; omega) hj]
theorem any_true {α : Type} {f : α → Bool} {xs : List α} {j : Nat} {a : α} (hj : xs[j]? = some a) (h : f a = true) : xs.any f = true := List.any_eq_true.2 ⟨a, List.mem_of_getElem? hj, h⟩
theorem any_step {α : Type} {f : α → Bool} {xs : List α} {k : Nat} {a : α} (hall : ∀ (j : Nat) (b : α), j < k → xs[j]? = some b → f b = false) (hk : xs[k]? = some a) (ha : f a = false) : ∀ (j : Nat) (b : α), j < k + 1 → xs[j]? = some b → f b = false := by
  intro j b hj hb
  by_cases e : j = k
  · subst e
    rw [hk] at hb
    rw [← Option.some.inj hb]
    exact ha
  · exact hall j b (by omega) hb
theorem ncells {w : World} {p : Nat} {t : TypeId} {q : P43.Nm × Bool} (h : Blk w p t (na q)) : w.cell? ⟨p, 0, none⟩ = some (.string ⟨q.1.toArray⟩) ∧ w.cell? ⟨p, 1, none⟩ = some (.bool q.2) := ⟨h.cell 0, h.cell 1⟩
set_option maxRecDepth 100000 in
set_option maxHeartbeats 4000000 in
theorem clConfL (A1 A2 : Option Addr) (n1 c1 n2 c2 : Nat) (l1 l2 : List (P43.Nm × Bool)) (w : World) (h1 : NlsAt w A1 n1 l1) (h2 : NlsAt w A2 n2 l2) (hn1 : n1 ≤ 9223372036854775807) (hn2 : n2 ≤ 9223372036854775807) :
    Calls Tryd.prog 17 #[.slice A1 n1 c1, .slice A2 n2 c2] w fun e w' => e = .returned (.bool (confL l1 l2)) ∧ Below w.heap.size w w' := by
  have H1 := Lib.hid h1
  have H2 := Lib.hid h2
  clear h1 h2
  go_enter Tryd.func17, Tryd.ntmps17
  go_wp2
  go_loopw [11] (fun i wr => ∃ k : Nat, k ≤ n1 ∧ i = .int .i64 k ∧ Hid (∀ (j : Nat) (p : P43.Nm × Bool), j < k → l1[j]? = some p → (l2.any fun q => clashN p q) = false) ∧ Below w.heap.size w wr) (fun i _ => n1 - (intOf i).toNat)
  case atStart => exact ⟨0, Nat.zero_le _, rfl, fun j a hj => absurd hj (by omega), Below.refl _ _⟩
  case round =>
    obtain ⟨k, hk, rfl, hall, hb⟩ := hrel
    have HB := Lib.hid hb
    have hsz := hb.size
    clear hb
    by_cases hlt : k < n1
    · obtain ⟨b, off, p, rfl, hp, x0, x1⟩ := (NlsAt.below H1.out HB.out).at_ hlt
      have HP := Lib.hid hp
      have hk1 : (k : Int) < (n1 : Int) := by omega
      have hk2 : (0 : Int) ≤ (k : Int) := by omega
      clear hp
      go_upto_region 4 with (fail)
      obtain ⟨w2, g, e1, e2, hb2, hg⟩ := boxes1 wr tNL (na p)
      unfold na at e1
      rw [show wr.alloc (.cells #[.string ⟨p.1.toArray⟩, .bool p.2] 43) = w2 from e1, e2]
      have HG := Lib.hid hg
      have HB2 := Lib.hid (HB.out.trans (hb2.mono hsz))
      have hsz2 := HB2.out.size
      clear e1 e2 hb2 hg x0 x1
      obtain ⟨wo, hwo⟩ : ∃ wo, wr = wo := ⟨_, rfl⟩
      rw [hwo] at HB hsz
      clear hwo wr
      go_wp2
      go_loopw [17] (fun i wr => ∃ m : Nat, m ≤ n2 ∧ i = .int .i64 m ∧ Hid (∀ (j : Nat) (q : P43.Nm × Bool), j < m → l2[j]? = some q → clashN p q = false) ∧ Below w2.heap.size w2 wr) (fun i _ => n2 - (intOf i).toNat)
      case atStart => exact ⟨0, Nat.zero_le _, rfl, fun j a hj => absurd hj (by omega), Below.refl _ _⟩
      case round =>
        obtain ⟨m, hm, rfl, hal2, hb3⟩ := hrel
        have HB3 := Lib.hid hb3
        have hsz3 := hb3.size
        clear hb3
        by_cases hlt2 : m < n2
        · obtain ⟨b2, off2, q, rfl, hq, y0, y1⟩ := ((NlsAt.below H2.out HB2.out).below HB3.out).at_ hlt2
          have HQ := Lib.hid hq
          have hm1 : (m : Int) < (n2 : Int) := by omega
          have hm2 : (0 : Int) ≤ (m : Int) := by omega
          clear hq
          go_upto_region 7 with (fail)
          obtain ⟨w4, g4, e1, e2, hb4, hg4⟩ := boxes1 wr tNL (na q)
          unfold na at e1
          rw [show wr.alloc (.cells #[.string ⟨q.1.toArray⟩, .bool q.2] 43) = w4 from e1, e2]
          obtain ⟨p0, p1⟩ := ncells ((HG.out.below HB3.out).below hb4)
          obtain ⟨q0, q1⟩ := ncells hg4
          have HB4 := Lib.hid (HB3.out.trans (hb4.mono hsz3))
          clear e1 e2 hb4 hg4 y0 y1
          obtain ⟨pn, px⟩ := p
          obtain ⟨qn, qx⟩ := q
          simp only at p0 p1 q0 q1
          by_cases he : pn = qn
          · subst he
            have HCL := Lib.hid (show clashN (pn, px) (pn, qx) = (px || qx) from by simp [clashN])
            cases px <;> cases qx
            · go_wp2
              go_roundw
              case rel => exact ⟨m + 1, hlt2, by simp, any_step hal2 HQ.out (by rw [HCL.out]; rfl), HB4.out⟩
              case measure => dsimp only [intOf]; omega
            all_goals
              have HO := Lib.hid (show confL l1 l2 = true from any_true HP.out (any_true HQ.out (by rw [HCL.out]; rfl)))
              go_wp2
              go_ret
              exact ⟨retBool HO.out.symm, HB2.out.trans (HB4.out.mono hsz2)⟩
          · have HCL := Lib.hid (show clashN (pn, px) (qn, qx) = false from by simp [clashN, he])
            go_wp2
            exact ⟨⟨m + 1, hlt2, by simp, any_step hal2 HQ.out HCL.out, HB4.out⟩, by dsimp only [intOf]; omega⟩
        · have hmn : m = n2 := by omega
          have hm1 : ¬ (m : Int) < (n2 : Int) := by omega
          go_wp2
          refine ⟨⟨k + 1, hlt, by simp, any_step hall HP.out (any_false H2.out.len (fun j q hj hq => hal2 j q (by omega) hq)), HB2.out.trans (HB3.out.mono hsz2)⟩, by dsimp only [intOf]; omega⟩
    · have hkn : k = n1 := by omega
      subst hkn
      have hk1 : ¬ (k : Int) < (k : Int) := by omega
      have HO := Lib.hid (show confL l1 l2 = false from any_false H1.out.len hall)
      go_wp2
      go_ret
      exact ⟨retBool HO.out.symm, HB.out⟩
end Go.Proofs.YtojbddcbnnbklaaDoor
