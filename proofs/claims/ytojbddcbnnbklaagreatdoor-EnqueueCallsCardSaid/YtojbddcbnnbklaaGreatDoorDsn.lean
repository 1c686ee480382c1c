/- dsname: upper, digit, plain, qualifier, Valid's function. -/
import Derived.Test.YtojbddcbnnbklaaGreatDoorRows
import Derived.Test.YtojbddcbnnbklaaGreatDoorClMem
import Derived.Laws.StructEq
import Derived.Handy
namespace Go.Proofs.YtojbddcbnnbklaaGreatDoor
open Go.RowKit
attribute [local go_sem] ByteArray.mk_append_mk ByteArray.extract_mk mk_index

def upI (b : Int) : Bool := decide (65 ≤ b) && decide (b ≤ 90)
def dgI (b : Int) : Bool := decide (48 ≤ b) && decide (b ≤ 57)
def plI (b : Int) : Bool := upI b || dgI b
/-- One to eight bytes, the first upper. -/
def qualB (l : List UInt8) : Bool := match l with
  | [] => false
  | c :: r => decide (r.length ≤ 7) && upI c.toNat && r.all fun x => plI x.toNat
theorem all_take {α : Type} (f : α → Bool) {l : List α} {k : Nat} {x : α} (h : l[k]? = some x) : (l.take (k + 1)).all f = ((l.take k).all f && f x) := by
  rw [List.take_add_one, h, List.all_append]
  simp
theorem dsUpper (b : Int) (w : World) : Calls Tryz.prog 57 #[.int .u8 b] w fun e w' => e = .returned (.bool (upI b)) ∧ w = w' := by
  unfold upI
  go_enter Tryz.func57, Tryz.ntmps57
  go_wp2
  all_goals go_ret
  all_goals (refine ⟨retBool ?_, rfl⟩; rw [Bool.eq_iff_iff]; simp only [Bool.and_eq_true, decide_eq_true_eq] at *; simp; try omega)
theorem dsDigit (b : Int) (w : World) : Calls Tryz.prog 74 #[.int .u8 b] w fun e w' => e = .returned (.bool (dgI b)) ∧ w = w' := by
  unfold dgI
  go_enter Tryz.func74, Tryz.ntmps74
  go_wp2
  all_goals go_ret
  all_goals (refine ⟨retBool ?_, rfl⟩; rw [Bool.eq_iff_iff]; simp only [Bool.and_eq_true, decide_eq_true_eq] at *; simp; try omega)
theorem dsPlain (b : Int) (w : World) : Calls Tryz.prog 58 #[.int .u8 b] w fun e w' => e = .returned (.bool (plI b)) ∧ w = w' := by
  have HU := Lib.hid (dsUpper b w)
  have HD := Lib.hid (dsDigit b w)
  unfold plI
  go_enter Tryz.func58, Tryz.ntmps58
  cases h : upI b
  · rw [h] at HU
    go_wp2_with (first | (go_at_call 57; refine HU.out.mono ?_; rintro e w' ⟨rfl, rfl⟩) | (go_at_call 74; refine HD.out.mono ?_; rintro e w' ⟨rfl, rfl⟩))
    go_ret
    exact ⟨by simp, rfl⟩
  · rw [h] at HU
    go_wp2_with (go_at_call 57; refine HU.out.mono ?_; rintro e w' ⟨rfl, rfl⟩)
    go_ret
    exact ⟨by simp, rfl⟩
set_option maxRecDepth 100000 in
set_option maxHeartbeats 2000000 in
theorem dsQual (l : List UInt8) (w : World) (hl : l.length ≤ 1000000) : Calls Tryz.prog 56 #[.string ⟨l.toArray⟩, .func (.func 57) #[] #[], .func (.func 58) #[] #[]] w fun e w' => e = .returned (.bool (qualB l)) ∧ w = w' := by
  go_enter Tryz.func56, Tryz.ntmps56
  cases l with
  | nil =>
    go_wp2
    go_ret
    exact ⟨rfl, rfl⟩
  | cons c r =>
    have HU := Lib.hid (dsUpper c.toNat w)
    by_cases h7 : r.length ≤ 7
    · cases hu : upI c.toNat with
      | false =>
        rw [hu] at HU
        go_wp2_with (go_at_call 57; refine HU.out.mono ?_; rintro e w' ⟨rfl, rfl⟩)
        go_ret
        exact ⟨by simp [qualB, hu], rfl⟩
      | true =>
        rw [hu] at HU
        go_wp2_with (go_at_call 57; refine HU.out.mono ?_; rintro e w' ⟨rfl, rfl⟩)
        go_loopw [7] (fun i wr => ∃ j : Nat, j ≤ r.length ∧ i = .int .i64 (j + 1) ∧ wr = w ∧ ((r.take j).all fun x => plI x.toNat) = true) (fun i _ => r.length + 1 - (intOf i).toNat)
        case atStart => exact ⟨0, Nat.zero_le _, rfl, rfl, by simp⟩
        case round =>
          obtain ⟨j, hj, rfl, rfl, hall⟩ := hrel
          by_cases hlt : j < r.length
          · have HALL := Lib.hid (all_take (fun x : UInt8 => plI x.toNat) (List.getElem?_eq_getElem hlt))
            have HA := Lib.hid hall
            have HP := Lib.hid (dsPlain (r[j]'hlt).toNat wr)
            have hj1 : (j : Int) + 1 < (r.length : Int) + 1 := by omega
            have hj2 : (0 : Int) ≤ (j : Int) + 1 := by omega
            clear hall
            cases hp : plI (r[j]'hlt).toNat with
            | false =>
              rw [hp] at HP
              go_wp2_with (go_at_call 58; refine HP.out.mono ?_; rintro e w' ⟨rfl, rfl⟩)
              go_ret
              have hx : r.all (fun x => plI x.toNat) = false := by
                rw [List.all_eq_false]
                exact ⟨_, List.getElem_mem hlt, by simp [hp]⟩
              exact ⟨by simp [qualB, hu, h7, hx], rfl⟩
            | true =>
              rw [hp] at HP
              go_wp2_with (go_at_call 58; refine HP.out.mono ?_; rintro e w' ⟨rfl, rfl⟩)
              go_roundw
              case rel => exact ⟨j + 1, hlt, by simp, trivial, by rw [HALL.out, HA.out, hp]; rfl⟩
              case measure => dsimp only [intOf]; omega
          · have hjn : j = r.length := by omega
            subst hjn
            go_wp2
            go_ret
            rw [List.take_length] at hall
            exact ⟨by simp [qualB, hu, h7, hall], rfl⟩
    · go_wp2
      go_ret
      exact ⟨by simp [qualB, h7], rfl⟩
theorem dsVal1 (l : List UInt8) (w : World) (hl : l.length ≤ 1000000) : Calls Tryz.prog 55 #[.string ⟨l.toArray⟩] w fun e w' => e = .returned (.bool (qualB l)) ∧ w = w' := by
  have HQ := Lib.hid (dsQual l w hl)
  go_enter Tryz.func55, Tryz.ntmps55
  go_wp2_with (go_at_call 56; refine HQ.out.mono ?_; rintro e w' ⟨rfl, rfl⟩)
  go_ret
  exact ⟨rfl, rfl⟩
end Go.Proofs.YtojbddcbnnbklaaGreatDoor
