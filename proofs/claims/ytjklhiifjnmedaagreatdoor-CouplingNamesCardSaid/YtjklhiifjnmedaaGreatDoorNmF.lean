/- dsname: upper, digit, plain, qualifier, Valid's function. DERIVED: THE SHELF's CONTRACTS AT THIS DUMP, IN PLAIN WORDS (tools/lay-plain.mjs out of 'YtjklhiifjnmedaaGreatDoorDsShelf.lean', which tools/lay-shelf.mjs wrote): THE SAME DECLARATIONS UNDER THE SAME NAMES: 'import', 'namespace', 'open', 'def', 'theorem' AND NOTHING ELSE: no command of the shelf's: FOR A HAND-IN. Each laying: the table of numbers ('.._ren') and one theorem, a field a fact of the dump's own or the kernel's comparison; each contract: ONE APPLICATION. dsname.Valid: a name is valid, split at its points. dasdref31.Valid: the same as the program's. -/
import Derived.Test.YtjklhiifjnmedaaGreatDoorRows
import Derived.Test.YtjklhiifjnmedaaGreatDoorNmG
import Derived.Laws.StructEq
import Derived.Handy
import Derived.Ground.NamesProg
import Derived.Shelf.Strings.SplitShaped
import Derived.Test.YtjklhiifjnmedaaGreatDoorProg
import Derived.Test.YtjklhiifjnmedaaGreatDoorNmE
import Derived.StillTailTactics
import Derived.Deep.QuietTactic
import Derived.BigQuiet
import Derived.Laws.OwnMore
namespace Go.Proofs.YtjklhiifjnmedaaGreatDoor
open Go.RowKit
attribute [local go_sem] ByteArray.mk_append_mk ByteArray.extract_mk mk_index

def upI (b : Int) : Bool := decide (65 ≤ b) && decide (b ≤ 90)
def dgI (b : Int) : Bool := decide (48 ≤ b) && decide (b ≤ 57)
def plI (b : Int) : Bool := upI b || dgI b
/-- One to eight bytes, the first upper. -/
def qualB (l : List UInt8) : Bool := match l with
  | [] => false
  | c :: r => decide (r.length ≤ 7) && upI c.toNat && r.all fun x => plI x.toNat
theorem all_take {α : Type} (f : α → Bool) {l : List α} {k : Nat} {x : α} (h : l[k]? = some x) : (l.take (k + 1)).all f = ((l.take k).all f && f x) := by
  rw [List.take_add_one, h, List.all_append]
  simp
theorem dsUpper (b : Int) (w : World) : Calls Tryz.prog 49 #[.int .u8 b] w fun e w' => e = .returned (.bool (upI b)) ∧ w = w' := by
  unfold upI
  go_enter Tryz.func49, Tryz.ntmps49
  go_wp2
  all_goals go_ret
  all_goals (refine ⟨retBool ?_, rfl⟩; rw [Bool.eq_iff_iff]; simp only [Bool.and_eq_true, decide_eq_true_eq] at *; simp; try omega)
theorem dsDigit (b : Int) (w : World) : Calls Tryz.prog 84 #[.int .u8 b] w fun e w' => e = .returned (.bool (dgI b)) ∧ w = w' := by
  unfold dgI
  go_enter Tryz.func84, Tryz.ntmps84
  go_wp2
  all_goals go_ret
  all_goals (refine ⟨retBool ?_, rfl⟩; rw [Bool.eq_iff_iff]; simp only [Bool.and_eq_true, decide_eq_true_eq] at *; simp; try omega)
theorem dsPlain (b : Int) (w : World) : Calls Tryz.prog 50 #[.int .u8 b] w fun e w' => e = .returned (.bool (plI b)) ∧ w = w' := by
  have HU := Lib.hid (dsUpper b w)
  have HD := Lib.hid (dsDigit b w)
  unfold plI
  go_enter Tryz.func50, Tryz.ntmps50
  cases h : upI b
  · rw [h] at HU
    go_wp2_with (first | (go_at_call 49; refine HU.out.mono ?_; rintro e w' ⟨rfl, rfl⟩) | (go_at_call 84; refine HD.out.mono ?_; rintro e w' ⟨rfl, rfl⟩))
    go_ret
    exact ⟨by simp, rfl⟩
  · rw [h] at HU
    go_wp2_with (go_at_call 49; refine HU.out.mono ?_; rintro e w' ⟨rfl, rfl⟩)
    go_ret
    exact ⟨by simp, rfl⟩
set_option maxRecDepth 100000 in
set_option maxHeartbeats 2000000 in
theorem dsQual (l : List UInt8) (w : World) (hl : l.length ≤ 1000000) : Calls Tryz.prog 48 #[.string ⟨l.toArray⟩, .func (.func 49) #[] #[], .func (.func 50) #[] #[]] w fun e w' => e = .returned (.bool (qualB l)) ∧ w = w' := by
  go_enter Tryz.func48, Tryz.ntmps48
  cases l with
  | nil =>
    go_wp2
    go_ret
    exact ⟨rfl, rfl⟩
  | cons c r =>
    have HU := Lib.hid (dsUpper c.toNat w)
    by_cases h7 : r.length ≤ 7
    · cases hu : upI c.toNat with
      | false =>
        rw [hu] at HU
        go_wp2_with (go_at_call 49; refine HU.out.mono ?_; rintro e w' ⟨rfl, rfl⟩)
        go_ret
        exact ⟨by simp [qualB, hu], rfl⟩
      | true =>
        rw [hu] at HU
        go_wp2_with (go_at_call 49; refine HU.out.mono ?_; rintro e w' ⟨rfl, rfl⟩)
        go_loopw [7] (fun i wr => ∃ j : Nat, j ≤ r.length ∧ i = .int .i64 (j + 1) ∧ wr = w ∧ ((r.take j).all fun x => plI x.toNat) = true) (fun i _ => r.length + 1 - (intOf i).toNat)
        case atStart => exact ⟨0, Nat.zero_le _, rfl, rfl, by simp⟩
        case round =>
          obtain ⟨j, hj, rfl, rfl, hall⟩ := hrel
          by_cases hlt : j < r.length
          · have HALL := Lib.hid (all_take (fun x : UInt8 => plI x.toNat) (List.getElem?_eq_getElem hlt))
            have HA := Lib.hid hall
            have HP := Lib.hid (dsPlain (r[j]'hlt).toNat wr)
            have hj1 : (j : Int) + 1 < (r.length : Int) + 1 := by omega
            have hj2 : (0 : Int) ≤ (j : Int) + 1 := by omega
            clear hall
            cases hp : plI (r[j]'hlt).toNat with
            | false =>
              rw [hp] at HP
              go_wp2_with (go_at_call 50; refine HP.out.mono ?_; rintro e w' ⟨rfl, rfl⟩)
              go_ret
              have hx : r.all (fun x => plI x.toNat) = false := by
                rw [List.all_eq_false]
                exact ⟨_, List.getElem_mem hlt, by simp [hp]⟩
              exact ⟨by simp [qualB, hu, h7, hx], rfl⟩
            | true =>
              rw [hp] at HP
              go_wp2_with (go_at_call 50; refine HP.out.mono ?_; rintro e w' ⟨rfl, rfl⟩)
              go_roundw
              case rel => exact ⟨j + 1, hlt, by simp, trivial, by rw [HALL.out, HA.out, hp]; rfl⟩
              case measure => dsimp only [intOf]; omega
          · have hjn : j = r.length := by omega
            subst hjn
            go_wp2
            go_ret
            rw [List.take_length] at hall
            exact ⟨by simp [qualB, hu, h7, hall], rfl⟩
    · go_wp2
      go_ret
      exact ⟨by simp [qualB, h7], rfl⟩
theorem dsVal1 (l : List UInt8) (w : World) (hl : l.length ≤ 1000000) : Calls Tryz.prog 47 #[.string ⟨l.toArray⟩] w fun e w' => e = .returned (.bool (qualB l)) ∧ w = w' := by
  have HQ := Lib.hid (dsQual l w hl)
  go_enter Tryz.func47, Tryz.ntmps47
  go_wp2_with (go_at_call 48; refine HQ.out.mono ?_; rintro e w' ⟨rfl, rfl⟩)
  go_ret
  exact ⟨rfl, rfl⟩
end Go.Proofs.YtjklhiifjnmedaaGreatDoor
namespace Go.Proofs
open Go.Shelf
def Tryz.laysM146_ren : Go.Shelf.Ren := ⟨fun | 146 => 83 | 221 => 100 | 268 => 124 | 138 => 125 | 143 => 126 | 195 => 138 | 197 => 139 | 218 => 140 | 219 => 141 | 260 => 145 | 217 => 146 | 225 => 147 | 224 => 148 | 267 => 149 | 266 => 150 | 314 => 151 | n => n, fun | 9 => 9 | 31 => 77 | 3 => 3 | 4 => 4 | 0 => 0 | 105 => 161 | 21 => 21 | 5 => 5 | 46 => 122 | 119 => 168 | 139 => 171 | 138 => 170 | 146 => 172 | 51 => 140 | n => n, fun | 1 => 0 | 3 => 1 | 4 => 2 | n => n⟩
theorem Tryz.laysM146 : Go.Proofs.LaysM.n146 Tryz.prog Tryz.laysM146_ren := {
  mixed := by kernel_rfl
  f138 := Tryz.func125.trans (congrArg some (by kernel_rfl))
  f143 := Tryz.func126.trans (congrArg some (by kernel_rfl))
  f146 := Tryz.func83.trans (congrArg some (by kernel_rfl))
  f195 := Tryz.func138.trans (congrArg some (by kernel_rfl))
  f197 := Tryz.func139.trans (congrArg some (by kernel_rfl))
  f217 := Tryz.func146.trans (congrArg some (by kernel_rfl))
  f218 := Tryz.func140.trans (congrArg some (by kernel_rfl))
  f219 := Tryz.func141.trans (congrArg some (by kernel_rfl))
  f221 := Tryz.func100.trans (congrArg some (by kernel_rfl))
  f224 := Tryz.func148.trans (congrArg some (by kernel_rfl))
  f225 := Tryz.func147.trans (congrArg some (by kernel_rfl))
  f260 := Tryz.func145.trans (congrArg some (by kernel_rfl))
  f266 := Tryz.func150.trans (congrArg some (by kernel_rfl))
  f267 := Tryz.func149.trans (congrArg some (by kernel_rfl))
  f268 := Tryz.func124.trans (congrArg some (by kernel_rfl))
  f314 := Tryz.func151.trans (congrArg some (by kernel_rfl))
  t0 := Tryz.underlying0
  a0 := Tryz.isAgg0
  z0 := Tryz.sizeOf0
  v0 := Tryz.zeroValue0
  t3 := Tryz.underlying3
  a3 := Tryz.isAgg3
  z3 := Tryz.sizeOf3
  v3 := Tryz.zeroValue3
  t4 := Tryz.underlying4
  a4 := Tryz.isAgg4
  z4 := Tryz.sizeOf4
  v4 := Tryz.zeroValue4
  t5 := Tryz.underlying5
  a5 := Tryz.isAgg5
  z5 := Tryz.sizeOf5
  v5 := Tryz.zeroValue5
  t9 := Tryz.underlying9
  a9 := Tryz.isAgg9
  z9 := Tryz.sizeOf9
  v9 := Tryz.zeroValue9
  t21 := Tryz.underlying21
  a21 := Tryz.isAgg21
  z21 := Tryz.sizeOf21
  v21 := Tryz.zeroValue21
  t31 := Tryz.underlying77
  a31 := Tryz.isAgg77
  z31 := Tryz.sizeOf77
  v31 := Tryz.zeroValue77
  t46 := Tryz.underlying122
  a46 := Tryz.isAgg122
  z46 := Tryz.sizeOf122
  v46 := Tryz.zeroValue122
  t51 := Tryz.underlying140
  a51 := Tryz.isAgg140
  z51 := Tryz.sizeOf140
  v51 := Tryz.zeroValue140
  t105 := Tryz.underlying161
  a105 := Tryz.isAgg161
  z105 := Tryz.sizeOf161
  v105 := Tryz.zeroValue161
  t119 := Tryz.underlying168
  a119 := Tryz.isAgg168
  z119 := Tryz.sizeOf168
  t138 := Tryz.underlying170
  a138 := Tryz.isAgg170
  z138 := Tryz.sizeOf170
  v138 := Tryz.zeroValue170
  t139 := Tryz.underlying171
  a139 := Tryz.isAgg171
  z139 := Tryz.sizeOf171
  v139 := Tryz.zeroValue171
  t146 := Tryz.underlying172
  a146 := Tryz.isAgg172
  z146 := Tryz.sizeOf172
  v146 := Tryz.zeroValue172
  g1 := by kernel_rfl
  g3 := by kernel_rfl
  g4 := by kernel_rfl
  i0 := by kernel_rfl
  i3 := by kernel_rfl
  i4 := by kernel_rfl
  i5 := by kernel_rfl
  i9 := by kernel_rfl
  i21 := by kernel_rfl
  i31 := by kernel_rfl
  i46 := by kernel_rfl
  i51 := by kernel_rfl
  i105 := by kernel_rfl
  i138 := by kernel_rfl
  i139 := by kernel_rfl
  i146 := by kernel_rfl
  m1 := by kernel_rfl
  s1_3 := fun w h => Go.Proofs.cell_of_shapedOpen_int (zero := #[.int .i64 0]) (t := 3) h (of_decide_eq_true (by kernel_rfl)) (by kernel_rfl) rfl (by kernel_rfl) (by kernel_rfl) Tryz.underlying3
  m3 := by kernel_rfl
  m4 := by kernel_rfl }
end Go.Proofs
namespace Go.Proofs.YtjklhiifjnmedaaGreatDoor
open Go.RowKit
attribute [local go_sem] ByteArray.mk_append_mk ByteArray.extract_mk mk_index

def pieces (l : List UInt8) : List ByteArray := Lib.splitB ⟨#[46]⟩ 0 (Lib.countB ⟨l.toArray⟩ ⟨#[46]⟩) ⟨l.toArray⟩
/-- The library's own variable holds a number. -/
def GlobM (w : World) : Prop := 0 < w.heap.size ∧ ∃ m, w.cell? ⟨0, 0, none⟩ = some (.int .i64 m)
theorem GlobM.below {w w' : World} (h : GlobM w) (hb : Below w.heap.size w w') : GlobM w' := by
  obtain ⟨h0, m, hm⟩ := h
  exact ⟨Nat.lt_of_lt_of_le h0 hb.size, m, (hb.cell (p := ⟨0, 0, none⟩) h0).trans hm⟩
def validB (l : List UInt8) : Bool := decide (1 ≤ l.length) && decide (l.length ≤ 31) && (pieces l).all fun q => qualB q.data.toList
theorem splitB_size (sep : ByteArray) : ∀ (k : Nat) (s q : ByteArray), q ∈ Lib.splitB sep 0 k s → q.size ≤ s.size
  | 0, s, q, h => by
    rw [Lib.splitB_zero, List.mem_singleton] at h
    subst h
    exact Nat.le_refl _
  | k + 1, s, q, h => by
    rw [Lib.splitB] at h
    split at h
    · rw [List.mem_singleton] at h
      subst h
      exact Nat.le_refl _
    · rcases List.mem_cons.1 h with rfl | h
      · rw [ByteArray.size_extract]; omega
      · refine Nat.le_trans (splitB_size sep k _ q h) ?_
        rw [ByteArray.size_extract]; omega
theorem piece_len {l : List UInt8} {q : ByteArray} (h : q ∈ pieces l) : q.data.toList.length ≤ l.length := splitB_size _ _ _ _ h
theorem pieces_len (l : List UInt8) : (pieces l).length = Lib.countB ⟨l.toArray⟩ ⟨#[46]⟩ + 1 := Lib.splitB_all ⟨#[46]⟩ (by decide) 0 _ ⟨l.toArray⟩ rfl
theorem pieces_le (l : List UInt8) : (pieces l).length ≤ l.length + 1 := by
  rw [pieces_len]
  have h := Lib.countB_le ⟨#[46]⟩ (by decide) (ByteArray.size ⟨l.toArray⟩) ⟨l.toArray⟩ (Nat.le_refl _)
  have e : ByteArray.size ⟨l.toArray⟩ = l.length := rfl
  rw [e] at h
  omega
theorem dsSplit (l : List UInt8) (w : World) (hl : l.length ≤ 1000000) (hG : GlobM w) :
    Calls Tryz.prog 83 #[.string ⟨l.toArray⟩, .string ⟨#[46]⟩] w fun e w' => ∃ g, e = .returned (.slice (some ⟨g, 0, none⟩) (pieces l).length (pieces l).length) ∧ Below w.heap.size w w' ∧ Blk w' g 9 ((pieces l).map Value.string).toArray := by
  obtain ⟨h0, m, hm⟩ := hG
  refine (Any.strings_Split { Tryz.laysM146 with } Tryz.laysM146.i9 ⟨l.toArray⟩ ⟨#[46]⟩ m w (by show l.length < _; omega) hm (by decide)).mono ?_
  rintro e w' ⟨rfl, rfl⟩
  rw [pieces_len]
  exact ⟨_, rfl, below_alloc (Below.refl _ _) _, Blk.new _ _ _⟩
set_option maxRecDepth 100000 in
set_option maxHeartbeats 2000000 in
theorem dsAll (l : List UInt8) (w : World) (hl : l.length ≤ 1000000) (hG : GlobM w) :
    Calls Tryz.prog 46 #[.string ⟨l.toArray⟩, .int .i64 31, .func (.func 47) #[] #[]] w fun e w' => e = .returned (.bool (validB l)) ∧ Below w.heap.size w w' := by
  have HS := Lib.hid (dsSplit l w hl hG)
  have hle := pieces_le l
  clear hG
  go_enter Tryz.func46, Tryz.ntmps46
  by_cases h1 : l.length < 1
  · have h1' : (l.length : Int) < 1 := by omega
    go_wp2
    go_ret
    exact ⟨by have e : l.length = 0 := by omega
              simp [validB, e], Below.refl _ _⟩
  · by_cases h2 : 31 < l.length
    · have h1' : ¬ (l.length : Int) < 1 := by omega
      have h2' : (31 : Int) < (l.length : Int) := by omega
      go_wp2
      go_ret
      exact ⟨by have e : ¬ l.length ≤ 31 := by omega
                simp [validB, e], Below.refl _ _⟩
    · have h1' : ¬ (l.length : Int) < 1 := by omega
      have h2' : ¬ (31 : Int) < (l.length : Int) := by omega
      go_wp2_with (go_at_call 83; refine HS.out.mono ?_; rintro e w1 ⟨g, rfl, hb, hB⟩; have HB := Lib.hid hb; have HP := Lib.hid hB; clear hb hB)
      have HV := Lib.hid (show validB l = (pieces l).all fun q => qualB q.data.toList from by
        have e1 : 1 ≤ l.length := by omega
        have e2 : l.length ≤ 31 := by omega
        simp [validB, e1, e2])
      obtain ⟨ps, hps⟩ : ∃ ps, pieces l = ps := ⟨_, rfl⟩
      have HQ := Lib.hid (show ∀ q ∈ ps, q.data.toList.length ≤ 1000000 from fun q hq => Nat.le_trans (piece_len (l := l) (by rw [hps]; exact hq)) hl)
      rw [hps] at HP HV hle ⊢
      obtain ⟨n, hn⟩ : ∃ n, ps.length = n := ⟨_, rfl⟩
      have HN := Lib.hid hn
      have hn1 : n ≤ 1000001 := by omega
      rw [hn]
      clear hps hle hn HS
      go_loopw [21] (fun i wr => ∃ j : Nat, j ≤ n ∧ i = .int .i64 j ∧ wr = w1 ∧ ((ps.take j).all fun q => qualB q.data.toList) = true) (fun i _ => n - (intOf i).toNat)
      case atStart => exact ⟨0, Nat.zero_le _, rfl, rfl, by simp⟩
      case round =>
        obtain ⟨j, hj, rfl, rfl, hall⟩ := hrel
        by_cases hlt : j < n
        · have hlt' : j < ps.length := by rw [HN.out]; exact hlt
          obtain ⟨q, hq⟩ : ∃ q, ps[j]? = some q := ⟨_, List.getElem?_eq_getElem hlt'⟩
          have HALL := Lib.hid (all_take (fun q : ByteArray => qualB q.data.toList) hq)
          have hqm := List.mem_of_getElem? hq
          have HA := Lib.hid hall
          have hcq := HP.out.cell j
          rw [List.getElem?_toArray, List.getElem?_map, hq] at hcq
          simp only [Option.map_some] at hcq
          have HC1 := Lib.hid (dsVal1 q.data.toList wr (HQ.out q hqm))
          have hnp : qualB q.data.toList = false → ps.all (fun q => qualB q.data.toList) = false := fun h => by
            rw [List.all_eq_false]
            exact ⟨q, hqm, by simp [h]⟩
          have HNP := Lib.hid hnp
          have hj1 : (j : Int) < (n : Int) := by omega
          have hj2 : (0 : Int) ≤ (j : Int) := by omega
          clear hall hq hqm hnp hlt'
          obtain ⟨c, hc⟩ : ∃ c, qualB q.data.toList = c := ⟨_, rfl⟩
          cases c with
          | false =>
            rw [hc] at HC1
            go_wp2_with (go_at_call 47; refine HC1.out.mono ?_; rintro e w' ⟨rfl, rfl⟩)
            go_ret
            exact ⟨retBool (by rw [HV.out, HNP.out hc]), HB.out⟩
          | true =>
            rw [hc] at HC1
            go_wp2_with (go_at_call 47; refine HC1.out.mono ?_; rintro e w' ⟨rfl, rfl⟩)
            go_roundw
            case rel => exact ⟨j + 1, hlt, by simp, trivial, by rw [HALL.out, HA.out, hc]; rfl⟩
            case measure => dsimp only [intOf]; omega
        · have hjn : j = n := by omega
          have hj1 : ¬ (j : Int) < (n : Int) := by omega
          have HA := Lib.hid hall
          clear hall
          go_wp2
          go_ret
          refine ⟨retBool ?_, HB.out⟩
          have h := HA.out
          rw [hjn, ← HN.out, List.take_length] at h
          rw [HV.out, h]
theorem dsValid (l : List UInt8) (w : World) (hl : l.length ≤ 1000000) (hG : GlobM w) :
    Calls Tryz.prog 24 #[.string ⟨l.toArray⟩] w fun e w' => e = .returned (.bool (validB l)) ∧ Below w.heap.size w w' := by
  have HA := Lib.hid (dsAll l w hl hG)
  clear hG
  go_enter Tryz.func24, Tryz.ntmps24
  go_wp2_with (go_at_call 46; refine HA.out.mono ?_; rintro e w' ⟨rfl, hb⟩; have HB := Lib.hid hb; clear hb)
  go_ret
  exact ⟨rfl, HB.out⟩
end Go.Proofs.YtjklhiifjnmedaaGreatDoor
namespace Go.Proofs.YtjklhiifjnmedaaGreatDoor
open Go.RowKit P43
attribute [local go_sem] ByteArray.mk_append_mk ByteArray.extract_mk mk_index

abbrev tSt : TypeId := 9
theorem infoS9 : (Tryz.prog.info? tSt).map (fun i => (i.zero, i.size, i.bytes)) = some (some (.string ⟨#[]⟩), 1, 16) := by kernel_rfl
theorem refLetter (b : Int) (w : World) : Calls Tryz.prog 67 #[.int .u8 b] w fun e w' => e = .returned (.bool (upI b)) ∧ w = w' := by
  unfold upI
  go_enter Tryz.func67, Tryz.ntmps67
  go_wp2
  all_goals go_ret
  all_goals (refine ⟨retBool ?_, rfl⟩; rw [Bool.eq_iff_iff]; simp only [Bool.and_eq_true, decide_eq_true_eq] at *; simp; try omega)
theorem refDigit (b : Int) (w : World) : Calls Tryz.prog 66 #[.int .u8 b] w fun e w' => e = .returned (.bool (dgI b)) ∧ w = w' := by
  unfold dgI
  go_enter Tryz.func66, Tryz.ntmps66
  go_wp2
  all_goals go_ret
  all_goals (refine ⟨retBool ?_, rfl⟩; rw [Bool.eq_iff_iff]; simp only [Bool.and_eq_true, decide_eq_true_eq] at *; simp; try omega)
theorem up_dg {b : Int} (h : upI b = true) : dgI b = false := by
  unfold upI at h
  unfold dgI
  simp only [Bool.and_eq_true, decide_eq_true_eq] at h
  have : ¬ b ≤ 57 := by omega
  simp [this]
theorem qual_dg {c : UInt8} {r : List UInt8} (h : dgI c.toNat = true) : qualB (c :: r) = false := by
  have hu : upI c.toNat = false := by
    cases hu : upI c.toNat with
    | false => rfl
    | true => rw [up_dg hu] at h; cases h
  simp [qualB, hu]
theorem qual_all {c : UInt8} {r : List UInt8} (h : dgI c.toNat = false) (h7 : r.length ≤ 7) : qualB (c :: r) = (c :: r).all fun x => plI x.toNat := by
  simp [qualB, h7, plI, h]
set_option maxRecDepth 100000 in
set_option maxHeartbeats 4000000 in
theorem refPart (l : List UInt8) (w : World) (hl : l.length ≤ 1000000) : Calls Tryz.prog 38 #[.string ⟨l.toArray⟩, .bool false] w fun e w' => e = .returned (.bool (qualB l)) ∧ w = w' := by
  go_enter Tryz.func38, Tryz.ntmps38
  cases l with
  | nil =>
    go_wp2
    go_ret
    exact ⟨rfl, rfl⟩
  | cons c r =>
    have HD := Lib.hid (refDigit c.toNat w)
    by_cases h7 : r.length ≤ 7
    · have h7' : ¬ (8 : Int) < (r.length : Int) + 1 := by omega
      have h7'' : ¬ (r.length : Int) + 1 < 1 := by omega
      cases hu : dgI c.toNat with
      | true =>
        rw [hu] at HD
        go_wp2_with (go_at_call 66; refine HD.out.mono ?_; rintro e w' ⟨rfl, rfl⟩)
        go_ret
        exact ⟨retBool (qual_dg hu).symm, rfl⟩
      | false =>
        rw [hu] at HD
        have HQ := Lib.hid (qual_all hu h7)
        go_wp2_with (go_at_call 66; refine HD.out.mono ?_; rintro e w' ⟨rfl, rfl⟩)
        obtain ⟨l, hcl⟩ : ∃ l, c :: r = l := ⟨_, rfl⟩
        have hll : l.length = r.length + 1 := by rw [← hcl]; rfl
        have hl8 : l.length ≤ 8 := by omega
        have HQ' := Lib.hid (show qualB (c :: r) = l.all fun x => plI x.toNat from by rw [HQ.out, hcl])
        rw [hcl]
        clear HQ hcl hll h7' h7'' HD hu hl h7
        go_loopw [5] (fun i wr => ∃ j : Nat, j ≤ l.length ∧ i = .int .i64 j ∧ wr = w ∧ ((l.take j).all fun x => plI x.toNat) = true) (fun i _ => l.length - (intOf i).toNat)
        case atStart => exact ⟨0, Nat.zero_le _, rfl, rfl, by simp⟩
        case round =>
          obtain ⟨j, hj, rfl, rfl, hall⟩ := hrel
          by_cases hlt : j < l.length
          · have HALL := Lib.hid (all_take (fun x : UInt8 => plI x.toNat) (List.getElem?_eq_getElem hlt))
            have HA := Lib.hid hall
            have HP := Lib.hid (refLetter (l[j]'hlt).toNat wr)
            have HP2 := Lib.hid (refDigit (l[j]'hlt).toNat wr)
            have hj1 : (j : Int) < (l.length : Int) := by omega
            have hj2 : (0 : Int) ≤ (j : Int) := by omega
            clear hall
            cases hp : upI (l[j]'hlt).toNat with
            | true =>
              rw [hp] at HP
              go_wp2_with (go_at_call 67; refine HP.out.mono ?_; rintro e w' ⟨rfl, rfl⟩)
              go_roundw
              case rel => exact ⟨j + 1, hlt, by simp, trivial, by rw [HALL.out, HA.out]; simp [plI, hp]⟩
              case measure => dsimp only [intOf]; omega
            | false =>
              rw [hp] at HP
              cases hp2 : dgI (l[j]'hlt).toNat with
              | true =>
                rw [hp2] at HP2
                go_wp2_with (first | (go_at_call 67; refine HP.out.mono ?_; rintro e w' ⟨rfl, rfl⟩) | (go_at_call 66; refine HP2.out.mono ?_; rintro e w' ⟨rfl, rfl⟩))
                go_roundw
                case rel => exact ⟨j + 1, hlt, by simp, trivial, by rw [HALL.out, HA.out]; simp [plI, hp2]⟩
                case measure => dsimp only [intOf]; omega
              | false =>
                rw [hp2] at HP2
                go_wp2_with (first | (go_at_call 67; refine HP.out.mono ?_; rintro e w' ⟨rfl, rfl⟩) | (go_at_call 66; refine HP2.out.mono ?_; rintro e w' ⟨rfl, rfl⟩))
                go_ret
                have hx : l.all (fun x => plI x.toNat) = false := by
                  rw [List.all_eq_false]
                  exact ⟨_, List.getElem_mem hlt, by simp [plI, hp, hp2]⟩
                exact ⟨retBool (by rw [HQ'.out, hx]), rfl⟩
          · have hjn : j = l.length := by omega
            have hj1 : ¬ (j : Int) < (l.length : Int) := by omega
            go_wp2
            go_ret
            rw [hjn, List.take_length] at hall
            exact ⟨retBool (by rw [HQ'.out, hall]), rfl⟩
    · have h7' : (8 : Int) < (r.length : Int) + 1 := by omega
      have h7'' : ¬ (r.length : Int) + 1 < 1 := by omega
      go_wp2
      go_ret
      exact ⟨by simp [qualB, h7], rfl⟩
theorem partsP_le : ∀ (l : List UInt8), (partsP l).length ≤ l.length + 1 ∧ ∀ q ∈ partsP l, q.length ≤ l.length
  | [] => by simp [partsP]
  | c :: r => by
    obtain ⟨h1, h2⟩ := partsP_le r
    obtain ⟨p, ps, hp⟩ := List.exists_cons_of_ne_nil (partsP_ne r)
    unfold partsP
    split
    · refine ⟨by simp; omega, fun q hq => ?_⟩
      rcases List.mem_cons.1 hq with rfl | hq
      · simp
      · have := h2 q hq
        simp
        omega
    · rw [hp] at h1 h2 ⊢
      refine ⟨by simp at h1 ⊢; omega, fun q hq => ?_⟩
      simp only [List.headD_cons, List.tail_cons] at hq
      rcases List.mem_cons.1 hq with rfl | hq
      · have := h2 p (List.mem_cons_self ..)
        simp
        omega
      · have := h2 q (List.mem_cons_of_mem _ hq)
        simp
        omega
/-- The last part. -/
theorem parts_last (l : List UInt8) : ∃ ps q, partsP l = ps ++ [q] ∧ (partsP l).dropLast = ps ∧ (partsP l).getLastD [] = q := by
  have h := List.dropLast_concat_getLast (partsP_ne l)
  refine ⟨_, _, h.symm, rfl, ?_⟩
  conv => lhs; rw [← h]
  simp
theorem OwnS.one {w : World} {B g : Nat} {e : TypeId} (hB : B ≤ g) (h : Blk w g e #[.string ⟨#[]⟩]) : OwnS w B e (.slice (some ⟨g, 0, none⟩) 1 1) [[]] :=
  ⟨rfl, .inr ⟨g, 1, #[.string ⟨#[]⟩], rfl, hB, h, Nat.le_refl _, by decide, rfl, rfl⟩⟩
/-- The last part's cell. -/
theorem OwnS.last {w : World} {B : Nat} {e : TypeId} {v : Value} {ps : List (List UInt8)} {q : List UInt8} {m : Nat} (hm : ps.length = m) (h : OwnS w B e v (ps ++ [q])) : ∃ g c, v = .slice (some ⟨g, 0, none⟩) (m + 1) c ∧ B ≤ g ∧ w.cell? ⟨g, m, none⟩ = some (.string ⟨q.toArray⟩) ∧ w.frozen? ⟨g, m, none⟩ = false ∧ g < w.heap.size ∧
    ∀ q' : List UInt8, OwnS (w.setCell ⟨g, m, none⟩ (.string ⟨q'.toArray⟩)) B e (.slice (some ⟨g, 0, none⟩) (m + 1) c) (ps ++ [q']) := by
  subst hm
  have h0 := h
  unfold OwnS at h0
  rcases h.2 with ⟨_, h1⟩ | ⟨g, cap, cur, rfl, hB, hb, h1, h2, _⟩
  · simp at h1
  · have hc := World.ownsRow.cells h (g := g) rfl ps.length (.string ⟨q.toArray⟩) (by simp)
    rw [Addr.add_lit, Nat.zero_add] at hc
    refine ⟨g, cap, by simp, hB, hc, World.ownsRow.frozenAt h ps.length, (Array.getElem?_eq_some_iff.1 hb).1, fun q' => ?_⟩
    have h3 := (World.ownsRow.stored h ps.length (.string ⟨q'.toArray⟩)).1
    unfold OwnS
    simp only [List.length_append, List.length_cons, List.length_nil, List.map_append, List.map_cons, List.map_nil] at h3 ⊢
    rw [List.set_append_right _ _ (by simp)] at h3
    simpa using h3
set_option maxRecDepth 100000 in
set_option maxHeartbeats 4000000 in
theorem refParts (l : List UInt8) (w : World) (hl : l.length ≤ 1000) : Calls Tryz.prog 37 #[.string ⟨l.toArray⟩] w fun e w' => ∃ v, e = .returned v ∧ OwnS w' w.heap.size tSt v (partsP l) ∧ Below w.heap.size w w' := by
  obtain ⟨i1, hi1', hy0, hy1, hy2⟩ := info_parts infoS9
  have HI1 := Lib.hid hi1'
  have HY0 := Lib.hid hy0
  have HY1 := Lib.hid hy1
  have HY2 := Lib.hid hy2
  clear hi1' hy0 hy1 hy2
  go_enter Tryz.func37, Tryz.ntmps37
  go_wp2
  obtain ⟨w2, q2, e1, e2, hb2, hq2⟩ := boxes1 w tSt #[.string ⟨#[]⟩]
  rw [e1, e2]
  have HB2 := Lib.hid hb2
  have HO2 := Lib.hid (OwnS.one (B := w.heap.size) (by omega) hq2)
  clear e1 e2 hb2 hq2
  go_loopw [3, 4] (fun ov iv wr => ∃ k : Nat, k ≤ l.length ∧ iv = .int .i64 k ∧ OwnS wr w.heap.size tSt ov (partsP (l.take k)) ∧ Below w.heap.size w wr) (fun _ iv _ => l.length - (intOf iv).toNat)
  case atStart => exact ⟨0, Nat.zero_le _, rfl, HO2.out, HB2.out⟩
  case round =>
    obtain ⟨k, hk, rfl, ho, hb⟩ := hrel
    have HO := Lib.hid ho
    have HB := Lib.hid hb
    have hsz := hb.size
    clear ho hb
    by_cases hlt : k < l.length
    · have HSN := Lib.hid (show partsP (l.take (k + 1)) = if l[k]'hlt = 46 then partsP (l.take k) ++ [[]] else (partsP (l.take k)).dropLast ++ [(partsP (l.take k)).getLastD [] ++ [l[k]'hlt]] from by
        rw [List.take_add_one, List.getElem?_eq_getElem hlt]
        exact partsP_snoc (l.take k) (l[k]'hlt))
      have hk1 : (k : Int) < (l.length : Int) := by omega
      have hk2 : (0 : Int) ≤ (k : Int) := by omega
      obtain ⟨hpl, hpq⟩ := partsP_le (l.take k)
      have htl := List.length_take_le k l
      by_cases hd : l[k]'hlt = 46
      · have b0 : (((l[k]'hlt).toNat : Int) == 46) = true := by rw [hd]; rfl
        have HLP := Lib.hid (show (partsP (l.take k)).length ≤ 1000000 from by omega)
        have HDD := Lib.hid hd
        clear hpl hpq hd
        go_wp2_with (at_builtin; refine wpList_append_str rfl (.tmp 16) (.tmp 17) _ rfl w.heap.size tSt i1 _ Tryz.underlying77 HI1.out HY0.out HY1.out HY2.out rfl _ (partsP (l.take k)) rfl (HO.out.alloc _) [] ⟨wr.heap.size, 0, none⟩ 1 rfl (World.cell?_alloc_mark wr _ tSt (0, 0) 0) HLP.out (by simp; omega) ?_; intro v3 w3 hown3 hb3 hg3 hat3; have HO3 := Lib.hid hown3; have HB3 := Lib.hid ((HB.out.alloc hsz _).trans hb3); clear hown3 hb3 hg3 hat3)
        exact ⟨⟨k + 1, hlt, by simp, by rw [HSN.out, if_pos HDD.out]; exact HO3.out, HB3.out⟩, by dsimp only [intOf]; omega⟩
      · have b0 : (((l[k]'hlt).toNat : Int) == 46) = false := by
          rw [beq_eq_false_iff_ne]
          intro e
          have h46 : (l[k]'hlt).toNat = 46 := by omega
          exact hd (UInt8.toNat_inj.1 h46)
        obtain ⟨ps, q, hpq1, hpd, hpg⟩ := parts_last (l.take k)
        have hq1 : q.length ≤ 1000 := by have := hpq q (by rw [hpq1]; simp); omega
        have hp1 : ps.length ≤ 1000 := by rw [hpq1] at hpl; simp at hpl; omega
        have HDD := Lib.hid hd
        rw [hpd, hpg] at HSN
        rw [hpq1] at HO
        obtain ⟨m, hm⟩ : ∃ m, ps.length = m := ⟨_, rfl⟩
        obtain ⟨g, c, rfl, hg, x0, f0, hgl, hset⟩ := HO.out.last hm
        have HSET := Lib.hid hset
        have HG := Lib.hid hg
        rw [hm] at hp1
        have hk3 : (k : Int) + 1 ≤ (l.length : Int) := by omega
        clear hpl hpq hd hpq1 hpd hpg hm hset hg
        go_upto_region 7 with (fail)
        have hm1 : (m : Int) < (m : Int) + 1 := by omega
        have hm2 : (0 : Int) ≤ (m : Int) := by omega
        have hk4 : (k : Int) ≤ (k : Int) + 1 := by omega
        have hk5 : (0 : Int) ≤ (k : Int) + 1 := by omega
        have hq2 : ¬ 9223372036854775807 < q.length + 1 := by omega
        have htk : List.take 1 (List.drop k l) = [l[k]'hlt] := by rw [List.drop_eq_getElem_cons hlt]; rfl
        have hwm := IntWalk.i64_in (m : Int) (by omega)
        have hwk := IntWalk.i64_in ((k : Int) + 1) (by omega)
        go_still_tail 17, (by kernel_rfl)
        go_wp2
        exact ⟨⟨k + 1, hlt, by simp, by rw [HSN.out, if_neg HDD.out]; exact (HSET.out (q ++ [l[k]'hlt])).drew, (HB.out.setCell HG.out _).drew⟩, by dsimp only [intOf]; omega⟩
    · have hkn : k = l.length := by omega
      have hk1 : ¬ (k : Int) < (l.length : Int) := by omega
      go_wp2
      go_ret
      have h := HO.out
      rw [hkn, List.take_length] at h
      exact ⟨_, rfl, h, HB.out⟩
theorem splitK_parts : ∀ (l : List UInt8), Lib.splitK [46] 0 (Lib.count l [46]) l = partsP l
  | [] => by
    rw [Lib.count_one]
    rfl
  | c :: r => by
    have ih := splitK_parts r
    by_cases h : c = 46
    · subst h
      rw [Lib.count_cons_eq, Nat.add_comm, Lib.splitK]
      have hix : Lib.index (46 :: r) [46] = ((0 : Nat) : Int) := by rw [Lib.index]; simp [List.isPrefixOf]
      rw [hix, if_neg (by decide)]
      simp only [Int.toNat_natCast, Nat.zero_add, List.take_zero, List.length_cons, List.length_nil, List.drop_succ_cons, List.drop_zero]
      rw [ih, partsP, if_pos rfl]
    · rw [Lib.count_cons_ne c 46 r h, partsP, if_neg h, ← ih]
      have hp : ([46] : List UInt8).isPrefixOf (c :: r) = false := by simp [List.isPrefixOf, Ne.symm h]
      have hix : Lib.index (c :: r) [46] = if Lib.index r [46] == -1 then -1 else Lib.index r [46] + 1 := by rw [Lib.index, hp]; simp
      by_cases hm : Lib.index r [46] = -1
      · rw [Lib.count_miss hm, Lib.splitK, Lib.splitK]
        rfl
      · have hge := Lib.index_ge r [46]
        obtain ⟨j, hj⟩ : ∃ j : Nat, Lib.index r [46] = j := ⟨(Lib.index r [46]).toNat, by omega⟩
        have hix' : Lib.index (c :: r) [46] = ((j + 1 : Nat) : Int) := by rw [hix, if_neg (fun e => hm (beq_iff_eq.1 e)), hj]; omega
        rw [Lib.count_hit (by simp) hj, Nat.add_comm, Lib.splitK, Lib.splitK, hix', hj, if_neg (by intro e; have := beq_iff_eq.1 e; omega), if_neg (by intro e; have := beq_iff_eq.1 e; omega)]
        simp
theorem pieces_parts (l : List UInt8) : (pieces l).map (·.data.toList) = partsP l := by
  unfold pieces
  rw [Lib.splitB_data]
  exact splitK_parts l
theorem valid_parts (l : List UInt8) : validB l = (decide (1 ≤ l.length) && decide (l.length ≤ 31) && (partsP l).all qualB) := by
  unfold validB
  rw [← pieces_parts, List.all_map]
  rfl
theorem strs_row {w : World} {B : Nat} {e : TypeId} {v : Value} {ss : List (List UInt8)} (h : OwnS w B e v ss) : ∃ A c, v = .slice A ss.length c ∧ ∀ (j : Nat) (q : List UInt8), ss[j]? = some q → ∃ b off, A = some ⟨b, off, none⟩ ∧ w.cell? ⟨b, off + j, none⟩ = some (.string ⟨q.toArray⟩) := by
  rcases h.2 with ⟨rfl, h0⟩ | ⟨g, cap, cur, rfl, _, _, h1, h2, _⟩
  · have : ss = [] := List.eq_nil_of_length_eq_zero h0
    subst this
    exact ⟨none, 0, rfl, fun j q h => by simp at h⟩
  · refine ⟨_, _, rfl, fun j q hj => ⟨g, 0, rfl, ?_⟩⟩
    have hc := World.ownsRow.cells h (g := g) rfl j (.string ⟨q.toArray⟩) (by rw [List.getElem?_map, hj]; rfl)
    rw [Addr.add_lit] at hc
    exact hc
set_option maxRecDepth 100000 in
set_option maxHeartbeats 4000000 in
theorem refValid0 (l : List UInt8) (w : World) (hl : l.length ≤ 1000) : Calls Tryz.prog 16 #[.string ⟨l.toArray⟩, .bool false] w fun e w' => e = .returned (.bool (validB l)) ∧ Below w.heap.size w w' := by
  have HV := Lib.hid (valid_parts l)
  go_enter Tryz.func16, Tryz.ntmps16
  by_cases h1 : l.length < 1
  · have h1' : (l.length : Int) < 1 := by omega
    go_wp2
    go_ret
    exact ⟨retBool (by rw [HV.out]; have e : l.length = 0 := by omega
                       simp [e]), Below.refl _ _⟩
  · by_cases h2 : 31 < l.length
    · have h1' : ¬ (l.length : Int) < 1 := by omega
      have h2' : (31 : Int) < (l.length : Int) := by omega
      go_wp2
      go_ret
      exact ⟨retBool (by rw [HV.out]; have e : ¬ l.length ≤ 31 := by omega
                         simp [e]), Below.refl _ _⟩
    · have h1' : ¬ (l.length : Int) < 1 := by omega
      have h2' : ¬ (31 : Int) < (l.length : Int) := by omega
      have HV2 := Lib.hid (show validB l = (partsP l).all qualB from by
        have e1 : 1 ≤ l.length := by omega
        have e2 : l.length ≤ 31 := by omega
        rw [valid_parts]
        simp [e1, e2])
      have HLE := Lib.hid (partsP_le l)
      go_wp2_with (go_at_call 37; refine (refParts l _ hl).mono ?_; rintro e w1 ⟨v, rfl, hb, hB⟩; have HB := Lib.hid hb; have HP := Lib.hid hB; clear hb hB)
      obtain ⟨ps, hps⟩ : ∃ ps, partsP l = ps := ⟨_, rfl⟩
      rw [hps] at HB HV2 HLE
      obtain ⟨A, c, rfl, hcell⟩ := strs_row HB.out
      obtain ⟨n, hn⟩ : ∃ n, ps.length = n := ⟨_, rfl⟩
      have HN := Lib.hid hn
      have HCL := Lib.hid hcell
      have hn1 : n ≤ 1001 := by have := HLE.out.1; omega
      rw [hn]
      clear hps hn hcell
      go_loopw [6] (fun i wr => ∃ j : Nat, j ≤ n ∧ i = .int .i64 j ∧ wr = w1 ∧ ((ps.take j).all qualB) = true) (fun i _ => n - (intOf i).toNat)
      case atStart => exact ⟨0, Nat.zero_le _, rfl, rfl, by simp⟩
      case round =>
        obtain ⟨j, hj, rfl, rfl, hall⟩ := hrel
        by_cases hlt : j < n
        · have hlt' : j < ps.length := by rw [HN.out]; exact hlt
          obtain ⟨q, hq⟩ : ∃ q, ps[j]? = some q := ⟨_, List.getElem?_eq_getElem hlt'⟩
          obtain ⟨b, off, rfl, x0⟩ := HCL.out j q hq
          have HALL := Lib.hid (all_take qualB hq)
          have hqm := List.mem_of_getElem? hq
          have HA := Lib.hid hall
          have HC1 := Lib.hid (refPart q wr (by have := HLE.out.2 q hqm; omega))
          have HNP := Lib.hid (show qualB q = false → ps.all qualB = false from fun h => by
            rw [List.all_eq_false]
            exact ⟨q, hqm, by simp [h]⟩)
          have hj1 : (j : Int) < (n : Int) := by omega
          have hj2 : (0 : Int) ≤ (j : Int) := by omega
          clear hall hq hqm hlt'
          obtain ⟨c, hc⟩ : ∃ c, qualB q = c := ⟨_, rfl⟩
          cases c with
          | false =>
            rw [hc] at HC1
            go_wp2_with (go_at_call 38; refine HC1.out.mono ?_; rintro e w' ⟨rfl, rfl⟩)
            go_ret
            exact ⟨retBool (by rw [HV2.out, HNP.out hc]), HP.out⟩
          | true =>
            rw [hc] at HC1
            go_wp2_with (go_at_call 38; refine HC1.out.mono ?_; rintro e w' ⟨rfl, rfl⟩)
            go_roundw
            case rel => exact ⟨j + 1, hlt, by simp, trivial, by rw [HALL.out, HA.out, hc]; rfl⟩
            case measure => dsimp only [intOf]; omega
        · have hjn : j = n := by omega
          have hj1 : ¬ (j : Int) < (n : Int) := by omega
          have HA := Lib.hid hall
          clear hall
          go_wp2
          go_ret
          refine ⟨retBool ?_, HP.out⟩
          have h := HA.out
          rw [hjn, ← HN.out, List.take_length] at h
          rw [HV2.out, h]
theorem refValid (l : List UInt8) (w : World) (hl : l.length ≤ 1000) : Calls Tryz.prog 4 #[.string ⟨l.toArray⟩] w fun e w' => e = .returned (.bool (validB l)) ∧ Below w.heap.size w w' := by
  have HA := Lib.hid (refValid0 l w hl)
  go_enter Tryz.func4, Tryz.ntmps4
  go_wp2_with (go_at_call 16; refine HA.out.mono ?_; rintro e w' ⟨rfl, hb⟩; have HB := Lib.hid hb; clear hb)
  go_ret
  exact ⟨rfl, HB.out⟩
end Go.Proofs.YtjklhiifjnmedaaGreatDoor
