/- Claims in memory: a slice that reads as a list of locks, a row of the call's own, whole locks loaded; plain theorems, no function of the program in sight. slices.IndexFunc and slices.ContainsFunc over locks, for a closure with one captured box. Rows of cells written in the middle: several cells stored at once, the tail cleared; plain theorems, no function of the program in sight. slices.Delete at locks: one element is left out of a row of the caller's own. slices.DeleteFunc at locks, for a closure with one captured box that lies outside the row. The walk of slices.DeleteFunc at locks. Name locks in memory: a slice that reads as a list of them, a row of the call's own; plain theorems, no function of the program in sight. DERIVED: THE SHELF's CONTRACTS AT THIS DUMP, IN PLAIN WORDS (tools/lay-plain.mjs out of 'YtjklhiifjnmedaaGreatDoorClShelf2.lean', which tools/lay-shelf.mjs wrote): THE SAME DECLARATIONS UNDER THE SAME NAMES: 'import', 'namespace', 'open', 'def', 'theorem' AND NOTHING ELSE: no command of the shelf's: FOR A HAND-IN. Each laying: the table of numbers ('.._ren') and one theorem, a field a fact of the dump's own or the kernel's comparison; each contract: ONE APPLICATION. -/
import Derived.Test.YtjklhiifjnmedaaGreatDoorLkAsk
import Derived.Test.YtjklhiifjnmedaaGreatDoorLkLeaf
import Derived.Test.YtjklhiifjnmedaaGreatDoorMem
import Derived.Test.YtjklhiifjnmedaaGreatDoorKit
import Derived.Test.YtjklhiifjnmedaaGreatDoorRow
import Derived.Test.YtjklhiifjnmedaaGreatDoorNmE
import Derived.Test.YtjklhiifjnmedaaGreatDoorLkFunc
import Derived.Test.YtjklhiifjnmedaaGreatDoorRows
import Derived.Laws.StructEq
import Derived.Handy
import Derived.Test.YtjklhiifjnmedaaGreatDoorRows2
import Derived.Deep.MidRow
import Derived.Deep.Upon
import Derived.Test.YtjklhiifjnmedaaGreatDoorLkDel
import Derived.Test.YtjklhiifjnmedaaGreatDoorLkOf
import Derived.Test.YtjklhiifjnmedaaGreatDoorLkVisit
import Derived.Test.YtjklhiifjnmedaaGreatDoorLkDelF
import Derived.Deep.DeepCutAuto
import Derived.StillTailTactics
import Derived.Shelf.SlIter.Nil
import Derived.Shelf.SortM.Plain
import Derived.Shelf.SortM.SortNone
import Derived.Ground.GgzProg
import Derived.Ground.SlgmProg
import Derived.Test.YtjklhiifjnmedaaGreatDoorProg
namespace Go.Proofs.YtjklhiifjnmedaaGreatDoor
open Go.RowKit P43

/-- A claim and the block of its map. -/
abbrev Cm := Cl × Nat
/-- The cells of a claim. -/
def cc (l : Cm) : List Value := [.int .i64 l.1.id, .map (some l.2)]
/-- .. as one struct's cells. -/
def ca (l : Cm) : Array Value := #[.int .i64 l.1.id, .map (some l.2)]
def ccs (ls : List Cm) : List Value := ls.flatMap cc
theorem ccs_nil : ccs [] = [] := rfl
theorem ccs_cons (l : Cm) (ls : List Cm) : ccs (l :: ls) = cc l ++ ccs ls := rfl
theorem ccs_append (a b : List Cm) : ccs (a ++ b) = ccs a ++ ccs b := by simp [ccs]
theorem ccs_length (ls : List Cm) : (ccs ls).length = ls.length * 2 := by
  induction ls with
  | nil => rfl
  | cons l ls ih => rw [ccs_cons, List.length_append, ih]; simp [cc]; omega
theorem ccs_get : ∀ {ls : List Cm} {k : Nat} {l : Cm}, ls[k]? = some l → ∀ j, j < 2 → (ccs ls)[k * 2 + j]? = (cc l)[j]?
  | [], k, l, h, j, hj => by simp at h
  | y :: ls, 0, l, h, j, hj => by
    simp only [List.getElem?_cons_zero, Option.some.injEq] at h
    subst h
    rw [ccs_cons, Nat.zero_mul, Nat.zero_add, List.getElem?_append_left (by simpa [cc] using hj)]
  | y :: ls, k + 1, l, h, j, hj => by
    rw [ccs_cons, List.getElem?_append_right (by simp [cc]; omega)]
    have := ccs_get (ls := ls) (k := k) (l := l) (by simpa using h) j hj
    rw [← this]
    congr 1
    simp [cc]
    omega
theorem cc_one (l : Cm) : ∀ u ∈ cc l, u.oneCell' = true := by
  intro u hu
  simp [cc] at hu
  rcases hu with rfl | rfl <;> rfl
theorem ccs_one (ls : List Cm) : ∀ u ∈ ccs ls, u.oneCell' = true := by
  intro u hu
  obtain ⟨l, _, hu⟩ := List.mem_flatMap.1 hu
  exact cc_one l u hu
/-- A lock as the program holds it. -/
def cv (l : Cm) : Value := .agg #[.int .i64 l.1.id, .map (some l.2)]

/-- The slice '.slice A n c' reads as the locks 'ls'. -/
def ClsAt (w : World) (A : Option Addr) (n : Nat) (ls : List Cm) : Prop := CellsAt w A n 2 (ccs ls)
section
variable {w w' : World} {A : Option Addr} {n c : Nat} {ls : List Cm} {B : Nat} {e : TypeId} {v : Value}
theorem ClsAt.nil : ClsAt w A 0 [] := ⟨rfl, fun j u h => by simp [ccs_nil] at h⟩
theorem ClsAt.len (h : ClsAt w A n ls) : ls.length = n := by
  have := h.1
  rw [ccs_length] at this
  omega
theorem ClsAt.below (h : ClsAt w A n ls) (hb : Below w.heap.size w w') : ClsAt w' A n ls := CellsAt.below h hb
/-- The k-th claim's cells. -/
theorem ClsAt.at_ (h : ClsAt w A n ls) {k : Nat} (hk : k < n) : ∃ b off l, A = some ⟨b, off, none⟩ ∧ ls[k]? = some l ∧ w.cell? ⟨b, off + k * 2, none⟩ = some (.int .i64 l.1.id) ∧ w.cell? ⟨b, off + k * 2 + 1, none⟩ = some (.map (some l.2)) := by
  have hl := h.len
  have hk' : k < ls.length := by omega
  have hg : ls[k]? = some ls[k] := List.getElem?_eq_getElem hk'
  have hc := fun j hj => ccs_get hg j hj
  obtain ⟨b, off, rfl, h0⟩ := h.2 (k * 2 + 0) _ (hc 0 (by omega))
  have key : ∀ j u, j < 2 → (cc ls[k])[j]? = some u → w.cell? ⟨b, off + (k * 2 + j), none⟩ = some u := by
    intro j u hj hu
    obtain ⟨b', off', he, h1⟩ := h.2 (k * 2 + j) u (by rw [hc j hj]; exact hu)
    injection he with he
    injection he with he1 he2
    subst he1 he2
    exact h1
  refine ⟨b, off, ls[k], rfl, hg, ?_, ?_⟩
  · have := key 0 _ (by omega) rfl; simpa using this
  · have := key 1 _ (by omega) rfl; rw [Nat.add_assoc]; exact this
/-- The slice value v is nil, or a row of the call's own (in a block from B on), and its elements are the locks 'ls'. -/
def OwnK (w : World) (B : Nat) (e : TypeId) (v : Value) (ls : List Cm) : Prop := w.ownsRow B e 2 v ls.length (ccs ls)
theorem OwnK.nil (w : World) (B : Nat) (e : TypeId) : OwnK w B e (.slice none 0 0) [] := World.ownsRow_nil w B e 2
theorem OwnK.alloc (h : OwnK w B e v ls) (o : Obj) : OwnK (w.alloc o) B e v ls := World.ownsRow.alloc h o
theorem OwnK.drewN (h : OwnK w B e v ls) (k : Nat) : OwnK (w.drewN k) B e v ls := h
theorem OwnK.drew (h : OwnK w B e v ls) : OwnK w.drew B e v ls := h
theorem OwnK.below (h : OwnK w B e v ls) (hb : Below w.heap.size w w') : OwnK w' B e v ls :=
  World.ownsRow.kept (row := none) h ⟨hb.os, hb.tape, hb.output, hb.size, fun k hk _ => hb.block k hk⟩ (by cases v.ownBlock <;> simp)
theorem OwnK.kept {row : Option Nat} (h : OwnK w B e v ls) (hg : w.grownBy w' row) (hne : v.ownBlock = none ∨ v.ownBlock ≠ row) : OwnK w' B e v ls := World.ownsRow.kept h hg hne
theorem OwnK.lt (h : OwnK w B e v ls) : ∀ k, v.ownBlock = some k → B ≤ k ∧ k < w.heap.size := World.ownsRow.lt h
theorem OwnK.cells (h : OwnK w B e v ls) : ∃ A c, v = .slice A ls.length c ∧ ClsAt w A ls.length ls ∧ ls.length ≤ maxLen := by
  rcases h.2 with ⟨rfl, h0⟩ | ⟨g, cap, cur, rfl, _, _, h1, h2, _⟩
  · have : ls = [] := List.eq_nil_of_length_eq_zero h0
    subst this
    exact ⟨none, 0, rfl, ClsAt.nil, Nat.zero_le _⟩
  · refine ⟨_, _, rfl, ⟨h.1, fun j u hj => ⟨g, 0, rfl, ?_⟩⟩, Nat.le_trans h1 h2⟩
    have := h.2
    have hc := World.ownsRow.cells h (g := g) rfl j u hj
    rw [Addr.add_lit] at hc
    exact hc
end

/-- The cells of the k-th lock of a slice, as one struct. -/
theorem ClsAt.row {w : World} {b off n : Nat} {ls : List Cm} (h : ClsAt w (some ⟨b, off, none⟩) n ls) {k : Nat} {l : Cm} (hl : ls[k]? = some l) :
    ∀ j u, (#[.int .i64 l.1.id, .map (some l.2)] : Array Value)[j]? = some u → w.cell? ((⟨b, off + k * 2, none⟩ : Addr).add j) = some u := by
  intro j u hj
  have hj2 : j < 2 := (Array.getElem?_eq_some_iff.1 hj).1
  have hu : (ccs ls)[k * 2 + j]? = some u := by
    rw [ccs_get hl j hj2]
    simpa [cc] using hj
  obtain ⟨b', off', he, h1⟩ := h.2 _ u hu
  injection he with he
  injection he with he1 he2
  subst he1 he2
  rw [Addr.add_lit]
  show w.cell? ⟨b, off + k * 2 + j, none⟩ = some u
  rw [Nat.add_assoc]
  exact h1
/-- 'append(s, l)', s a row of the call's own, l a lock in a new block. -/
theorem wpList_append_cm {P : Program} {w : World} {ops : Array Oper} {rest : List Oper} {o : Oper} {a : Act} {Q : Exit → Act → World → Prop} (hgd : o.guard = none) (s x : Operand) (t : TypeId)
    (ho : o.op = .call { callee := .builtin .append, args := #[s, x], argTypes := #[t, t] })
    (base : Nat) (e : TypeId) (i : TypeInfo) (z : Value) (bytes : Nat) (ht : P.underlying t = some (.slice e)) (hi : P.info? e = some i) (hz : i.zero = some z)
    (hsize : i.size = 2) (hby : i.bytes = bytes) (hzs : z.cells.size = 2) (hb6 : bytes ≤ 1000)
    (v : Value) (ls : List Cm) (hs : a.eval s = v) (hown : OwnK w base e v ls) (l : Cm) (b off c : Nat) (hx : a.eval x = .slice (some ⟨b, off, none⟩) 1 c) (hc : ClsAt w (some ⟨b, off, none⟩) 1 [l])
    (hlen : ls.length ≤ 1000000) (hbase : base ≤ w.heap.size)
    (h : ∀ v' w', OwnK w' base e v' (ls ++ [l]) → w.grownBy w' v.ownBlock → (v'.ownBlock = v.ownBlock ∨ v'.ownBlock = some w.heap.size) → v' ≠ .slice none 0 0 → wpList P ops Q rest (a.put o.dst v') w') :
    wpList P ops Q (o :: rest) a w := by
  refine wpList_append_own_at (P := P) w hgd s x t ho base e i z 2 bytes ht hi hz hsize hby hzs (by omega) v ls.length _ hs hown ⟨b, off, none⟩ 1 c (ccs [l]) hx (by rw [ccs_length]; rfl) ?_ (ccs_one _) (by unfold maxLen; omega) (Nat.le_trans (Nat.mul_le_mul (Nat.add_le_add_right hlen 1) hb6) (by decide)) hbase ?_
  · intro j u hj
    obtain ⟨b', off', he, h1⟩ := hc.2 j u hj
    injection he with he
    injection he with he1 he2
    subst he1 he2
    rw [Addr.add_lit]
    exact h1
  · intro v' w' h1 h2 h3 h4
    refine h v' w' ?_ h2 h4 (fun e => by have := (h3.1 e).2; omega)
    unfold OwnK
    rw [List.length_append, ccs_append]
    exact h1
/-- A lock in a new block of its own. -/
theorem ClsAt.lit1 (w : World) (e : TypeId) (l : Cm) : ClsAt (w.alloc (.cells #[.int .i64 l.1.id, .map (some l.2)] e)) (some ⟨w.heap.size, 0, none⟩) 1 [l] := by
  refine ⟨by rw [ccs_length]; rfl, fun j u hj => ⟨_, _, rfl, ?_⟩⟩
  rw [Nat.zero_add, World.cell?_alloc_mark w _ e (0, 0) j]
  simpa [ccs, cc] using hj
theorem ca_all (l : Cm) : (ca l).all (·.oneCell') = true := by
  rw [Array.all_eq_true_iff_forall_mem]
  intro v hv
  exact cc_one l v (by simpa [ca, cc] using hv)
end Go.Proofs.YtjklhiifjnmedaaGreatDoor
namespace Go.Proofs.YtjklhiifjnmedaaGreatDoor
open Go.RowKit P43

/-- The closure answers f. -/
structure AsksT (g b : Nat) (f : Cm → Bool) (w : World) : Prop where
  known : ∀ (args : Array Value) (W : World), Sem.run Tryz.prog (callFunc g args) W = .ok (.enter g args) W
  ask : ∀ (l : Cm) (W : World), Below w.heap.size w W → Calls Tryz.prog g #[cv l, .pointer (some ⟨b, 0, none⟩)] W fun e W' => e = .returned (.bool (f l)) ∧ Below W.heap.size W W'
theorem AsksT.below {g b : Nat} {f : Cm → Bool} {w w' : World} (h : AsksT g b f w) (hb : Below w.heap.size w w') : AsksT g b f w' := ⟨h.known, fun l W hW => h.ask l W (hb.trans (hW.mono hb.size))⟩
def fIdxT (f : Cm → Bool) (ls : List Cm) : Int := match ls.findIdx? f with | some i => i | none => -1
theorem fIdxT_none {f : Cm → Bool} {ls : List Cm} (h : ∀ (j : Nat) (l : Cm), ls[j]? = some l → f l = false) : fIdxT f ls = -1 := by
  unfold fIdxT
  have : ls.findIdx? f = none := by
    rw [List.findIdx?_eq_none_iff]
    intro l hl
    obtain ⟨j, hj⟩ := List.mem_iff_getElem?.1 hl
    exact h j l hj
  rw [this]
theorem fIdxT_some {f : Cm → Bool} {ls : List Cm} {k : Nat} {l : Cm} (hl : ls[k]? = some l) (hf : f l = true) (h : ∀ (j : Nat), j < k → ∀ l : Cm, ls[j]? = some l → f l = false) : fIdxT f ls = k := by
  unfold fIdxT
  have : ls.findIdx? f = some k := by
    rw [List.findIdx?_eq_some_iff_getElem]
    have hk := (List.getElem?_eq_some_iff.1 hl)
    have hk1 := hk.1
    refine ⟨hk.1, by rw [hk.2]; exact hf, fun j hj => ?_⟩
    simpa using h j hj _ (List.getElem?_eq_getElem (by omega))
  rw [this]
theorem fIdxT_any (f : Cm → Bool) (ls : List Cm) : decide (0 ≤ fIdxT f ls) = ls.any f := by
  unfold fIdxT
  cases h : ls.findIdx? f with
  | none =>
    rw [List.findIdx?_eq_none_iff] at h
    have : ls.any f = false := by rw [List.any_eq_false]; simpa using h
    rw [this]
    rfl
  | some i =>
    rw [List.findIdx?_eq_some_iff_getElem] at h
    obtain ⟨hi, hf, -⟩ := h
    have : ls.any f = true := List.any_eq_true.2 ⟨_, List.getElem_mem hi, hf⟩
    rw [this]
    simp

set_option maxRecDepth 100000 in
set_option maxHeartbeats 400000 in
theorem clIndexFunc (g b0 : Nat) (f : Cm → Bool) (A : Option Addr) (n c : Nat) (ls : List Cm) (w : World) (h : ClsAt w A n ls) (hn : n ≤ 1000000) (hf : AsksT g b0 f w) :
    Calls Tryz.prog 51 #[.slice A n c, clo g b0] w fun e w' => e = .returned (.int .i64 (fIdxT f ls)) ∧ Below w.heap.size w w' := by
  have H := Lib.hid h
  have HF := Lib.hid hf
  clear h hf
  have hlenL : (Tryz.prog.info? 61).map (·.size) = some 2 := by kernel_rfl
  go_enter Tryz.func51, Tryz.ntmps51
  go_wp2
  go_loopw [8] (fun i wr => ∃ k : Nat, k ≤ n ∧ i = .int .i64 k ∧ Hid (∀ j, j < k → ∀ l, ls[j]? = some l → f l = false) ∧ Below w.heap.size w wr) (fun i _ => n - (intOf i).toNat)
  case atStart => exact ⟨0, Nat.zero_le _, rfl, fun j hj => absurd hj (by omega), Below.refl _ _⟩
  case round =>
    obtain ⟨k, hk, rfl, hall, hbw⟩ := hrel
    have hsz := hbw.size
    by_cases hlt : k < n
    · have HW := Lib.hid (H.out.below hbw)
      obtain ⟨b, off, l, rfl, hl, -⟩ := HW.out.at_ hlt
      have HL := Lib.hid hl
      have HR := Lib.hid (HW.out.row hl)
      clear hl
      have hkn := HF.out.known
      unfold clo
      go_wp2_with (refine wpList_load_cells rfl 61 (.tmp 14) rfl ⟨b, off + k * 2, none⟩ rfl _ _ HR.out Tryz.underlying61 rfl hlenL ?_)
      refine (HF.out.ask l _ hbw).mono ?_
      rintro e w2 ⟨rfl, hb2⟩
      have HB2 := Lib.hid (hbw.trans (hb2.mono hsz))
      clear hb2
      cases hfl : f l with
      | true =>
        have HO := Lib.hid (fIdxT_some HL.out hfl hall.out)
        clear hfl
        go_wp2
        go_ret
        exact ⟨by rw [HO.out]; rfl, HB2.out⟩
      | false =>
        have HFL := Lib.hid hfl
        clear hfl
        go_wp2
        go_roundw
        case rel =>
          refine ⟨k + 1, by omega, by go_num, ?_, HB2.out⟩
          intro j hj l2 hl2
          by_cases hjk : j = k
          · subst hjk
            rw [HL.out] at hl2
            injection hl2 with e
            rw [← e]
            exact HFL.out
          · exact hall.out j (by omega) l2 hl2
        case measure => simp [intOf]; omega
    · have HO := Lib.hid (fIdxT_none (f := f) (ls := ls) fun j l hl => hall.out j (by have := H.out.len; have := (List.getElem?_eq_some_iff.1 hl).1; omega) l hl)
      go_wp2
      go_ret
      exact ⟨by rw [HO.out]; rfl, hbw⟩
end Go.Proofs.YtjklhiifjnmedaaGreatDoor
namespace Go.Proofs.YtjklhiifjnmedaaGreatDoor
open Go.RowKit P43

section
variable {w w' : World} {g : Nat} {t : TypeId}
end
theorem OwnK.blk {w : World} {B g n cap : Nat} {e : TypeId} {ls : List Cm} (h : OwnK w B e (.slice (some ⟨g, 0, none⟩) n cap) ls) : ∃ cur, Blk w g e cur ∧ cur.size = cap * 2 ∧ n = ls.length ∧ n ≤ cap ∧ cap ≤ maxLen ∧ cur.toList.take (n * 2) = ccs ls ∧ B ≤ g := by
  rcases h.2 with ⟨h0, _⟩ | ⟨g', cap', cur, hv, a1, a2, a3, a4, a5, a6⟩
  · cases h0
  · cases hv
    exact ⟨cur, a2, a5, rfl, a3, a4, a6, a1⟩
theorem OwnK.of_blk {w : World} {B g n cap : Nat} {e : TypeId} {ls : List Cm} {cur : Array Value} (hb : Blk w g e cur) (hs : cur.size = cap * 2) (hn : n = ls.length) (hc : n ≤ cap) (hm : cap ≤ maxLen) (ht : cur.toList.take (n * 2) = ccs ls) (hB : B ≤ g) : OwnK w B e (.slice (some ⟨g, 0, none⟩) n cap) ls := by
  subst hn
  exact ⟨ccs_length ls, .inr ⟨g, cap, cur, rfl, hB, hb, hc, hm, hs, ht⟩⟩
/-- Cells behind the row's own elements may be what they will. -/
theorem OwnK.tail {w : World} {B g n cap : Nat} {e : TypeId} {ls : List Cm} (h : OwnK w B e (.slice (some ⟨g, 0, none⟩) n cap) ls) {o : Nat} {zs : List Value} (ho : n * 2 ≤ o) (hz : o + zs.length ≤ cap * 2) : OwnK (w.setCells g o zs) B e (.slice (some ⟨g, 0, none⟩) n cap) ls := by
  obtain ⟨cur, h1, h2, h3, h4, h5, h6, h7⟩ := h.blk
  refine OwnK.of_blk (h1.setCells (by omega)) (by rw [over_size (by omega)]; exact h2) h3 h4 h5 ?_ h7
  unfold over
  rw [← h6]
  simp only [List.append_assoc]
  rw [List.take_append_of_le_length (by simp; omega), List.take_take, Nat.min_eq_left ho]
/-- The element at i is left out: those behind it are laid over it. -/
theorem OwnK.cut {w : World} {B g cap : Nat} {e : TypeId} {a b : List Cm} {x : Cm} (h : OwnK w B e (.slice (some ⟨g, 0, none⟩) (a.length + 1 + b.length) cap) (a ++ x :: b)) : OwnK (w.setCells g (a.length * 2) (ccs b)) B e (.slice (some ⟨g, 0, none⟩) (a.length + b.length) cap) (a ++ b) := by
  obtain ⟨cur, h1, h2, h3, h4, h5, h6, h7⟩ := h.blk
  have hl := ccs_length b
  refine OwnK.of_blk (h1.setCells (by omega)) (by rw [over_size (by omega)]; exact h2) (by simp) (by omega) h5 ?_ h7
  unfold over
  have e1 : cur.toList.take (a.length * 2) = ccs a := by
    have := congrArg (List.take (a.length * 2)) h6
    rw [List.take_take, Nat.min_eq_left (by omega), ccs_append, List.take_append_of_le_length (by rw [ccs_length]; omega), List.take_of_length_le (l := ccs a) (by rw [ccs_length]; omega)] at this
    exact this
  rw [e1, ccs_append]
  simp only [List.append_assoc]
  have e2 : (ccs a ++ (ccs b ++ cur.toList.drop (a.length * 2 + (ccs b).length))) = (ccs a ++ ccs b) ++ cur.toList.drop (a.length * 2 + (ccs b).length) := by simp
  rw [e2, List.take_append_of_le_length (by rw [List.length_append, ccs_length, ccs_length]; omega), List.take_of_length_le (by rw [List.length_append, ccs_length, ccs_length]; omega)]
end Go.Proofs.YtjklhiifjnmedaaGreatDoor
namespace Go.Proofs.YtjklhiifjnmedaaGreatDoor
open Go.RowKit P43
attribute [local go_sem] ByteArray.mk_append_mk ByteArray.extract_mk mk_index

theorem z_oneT : ∀ v ∈ (Value.agg #[.int .i64 0, .map none]).cells, v.oneCell' = true := by
  intro v hv
  simp [Value.cells] at hv
  rcases hv with rfl | rfl <;> rfl
end Go.Proofs.YtjklhiifjnmedaaGreatDoor
namespace Go.Proofs.YtjklhiifjnmedaaGreatDoor
open Go.RowKit P43
attribute [local go_sem] ByteArray.mk_append_mk ByteArray.extract_mk mk_index

/-- An element is written. -/
theorem OwnK.set {w : World} {B g n cap : Nat} {e : TypeId} {a b : List Cm} {x y : Cm} (h : OwnK w B e (.slice (some ⟨g, 0, none⟩) n cap) (a ++ x :: b)) : OwnK (w.setCells g (a.length * 2) (cc y)) B e (.slice (some ⟨g, 0, none⟩) n cap) (a ++ y :: b) := by
  obtain ⟨cur, h1, h2, h3, h4, h5, h6, h7⟩ := h.blk
  have hn : n = a.length + 1 + b.length := by rw [h3]; simp; omega
  have hl : (cc y).length = 2 := by simp [cc]
  have hlx : (cc x).length = 2 := by simp [cc]
  refine OwnK.of_blk (h1.setCells (by omega)) (by rw [over_size (by omega)]; exact h2) (by rw [h3]; simp) h4 h5 ?_ h7
  unfold over
  rw [ccs_append, ccs_cons] at h6 ⊢
  have e1 : cur.toList.take (a.length * 2) = ccs a := by
    have := congrArg (List.take (a.length * 2)) h6
    rw [List.take_take, Nat.min_eq_left (by omega), List.take_append_of_le_length (by rw [ccs_length]; omega), List.take_of_length_le (l := ccs a) (by rw [ccs_length]; omega)] at this
    exact this
  have e2 : (cur.toList.drop (a.length * 2 + (cc y).length)).take (b.length * 2) = ccs b := by
    have := congrArg (List.drop (a.length * 2 + 2)) h6
    rw [← List.append_assoc, List.drop_left' (l₁ := ccs a ++ cc x) (by simp [ccs_length, hlx]), List.drop_take] at this
    rw [hl, ← this]
    congr 1
    omega
  rw [e1]
  have e3 : n * 2 = (ccs a ++ cc y).length + b.length * 2 := by simp [ccs_length, hl]; omega
  rw [e3, List.take_length_add_append, e2, List.append_assoc]
theorem OwnK.front {w : World} {B g n cap : Nat} {e : TypeId} {a b : List Cm} (h : OwnK w B e (.slice (some ⟨g, 0, none⟩) n cap) (a ++ b)) : OwnK w B e (.slice (some ⟨g, 0, none⟩) a.length cap) a := by
  obtain ⟨cur, h1, h2, h3, h4, h5, h6, h7⟩ := h.blk
  rw [List.length_append] at h3
  refine OwnK.of_blk h1 h2 rfl (by omega) h5 ?_ h7
  have := congrArg (List.take (a.length * 2)) h6
  rw [List.take_take, Nat.min_eq_left (by omega), ccs_append, List.take_append_of_le_length (by rw [ccs_length]; omega), List.take_of_length_le (l := ccs a) (by rw [ccs_length]; omega)] at this
  exact this
/-- The closure answers f, whatever becomes of the row. -/
structure AsksGT (g b : Nat) (f : Cm → Bool) (w : World) (row : Option Nat) : Prop where
  known : ∀ (args : Array Value) (W : World), Sem.run Tryz.prog (callFunc g args) W = .ok (.enter g args) W
  ask : ∀ (l : Cm) (W : World), w.grownBy W row → Calls Tryz.prog g #[cv l, .pointer (some ⟨b, 0, none⟩)] W fun e W' => e = .returned (.bool (f l)) ∧ Below W.heap.size W W'
theorem AsksGT.asks {g b : Nat} {f : Cm → Bool} {w : World} {row : Option Nat} (h : AsksGT g b f w row) : AsksT g b f w := ⟨h.known, fun l W hW => h.ask l W (grown_of_below row hW)⟩
theorem OwnK.val {w : World} {B : Nat} {e : TypeId} {v : Value} {ls : List Cm} (h : OwnK w B e v ls) : (v = .slice none 0 0 ∧ ls = []) ∨ ∃ g cap, v = .slice (some ⟨g, 0, none⟩) ls.length cap := by
  rcases h.2 with ⟨rfl, h0⟩ | ⟨g, cap, cur, rfl, _⟩
  · exact .inl ⟨rfl, List.eq_nil_of_length_eq_zero h0⟩
  · exact .inr ⟨g, cap, rfl⟩
theorem OwnK.cap {w : World} {B : Nat} {e : TypeId} {A : Option Addr} {n c : Nat} {ls : List Cm} (h : OwnK w B e (.slice A n c) ls) : n ≤ c := by
  rcases h.2 with ⟨h1, _⟩ | ⟨g, cap, cur, h1, _, _, h2, _⟩
  · injection h1 with _ h3 h4
    omega
  · injection h1 with _ h3 h4
    omega
/-- Those that stay. -/
def keptT (f : Cm → Bool) (ls : List Cm) : List Cm := ls.filter fun l => !f l
theorem keptT_take {f : Cm → Bool} {ls : List Cm} {k : Nat} {l : Cm} (h : ls[k]? = some l) : keptT f (ls.take (k + 1)) = if f l = true then keptT f (ls.take k) else keptT f (ls.take k) ++ [l] := by
  unfold keptT
  rw [take_snoc h, List.filter_append]
  by_cases e : f l = true <;> simp [e]
theorem keptT_none {f : Cm → Bool} {ls : List Cm} (h : ls.findIdx? f = none) : keptT f ls = ls := by
  rw [List.findIdx?_eq_none_iff] at h
  unfold keptT
  rw [List.filter_eq_self]
  intro l hl
  rw [h l hl]
  rfl
theorem keptT_some {f : Cm → Bool} {ls : List Cm} {k : Nat} (h : ls.findIdx? f = some k) : ∃ l, ls[k]? = some l ∧ keptT f (ls.take (k + 1)) = ls.take k := by
  rw [List.findIdx?_eq_some_iff_getElem] at h
  obtain ⟨hk, hf, hlt⟩ := h
  refine ⟨ls[k], List.getElem?_eq_getElem hk, ?_⟩
  rw [keptT_take (List.getElem?_eq_getElem hk), if_pos hf]
  unfold keptT
  rw [List.filter_eq_self]
  intro l hl
  obtain ⟨j, hj, rfl⟩ := List.mem_iff_getElem.1 hl
  simp at hj
  rw [List.getElem_take]
  have := hlt j (by omega)
  simpa using this
/-- The rounds of DeleteFunc: those that stay, copies left behind, and the rest. -/
structure DInvT (w wr : World) (B g n cap : Nat) (f : Cm → Bool) (ls : List Cm) (i j : Nat) (X : List Cm) : Prop where
  own : OwnK wr B 61 (.slice (some ⟨g, 0, none⟩) n cap) (keptT f (ls.take j) ++ X ++ ls.drop j)
  grown : w.grownBy wr (some g)
  len : (keptT f (ls.take j)).length = i
  some_ : 0 < X.length
section
variable {w wr w' : World} {B g n cap i j : Nat} {f : Cm → Bool} {ls X : List Cm} {l : Cm}
theorem DInvT.next (h : DInvT w wr B g n cap f ls i j X) (hb : Below wr.heap.size wr w') : DInvT w w' B g n cap f ls i j X := ⟨h.own.below hb, grown_below h.grown hb, h.len, h.some_⟩
theorem DInvT.skip (h : DInvT w wr B g n cap f ls i j X) (hl : ls[j]? = some l) (hf : f l = true) : DInvT w wr B g n cap f ls i (j + 1) (X ++ [l]) := by
  have e := keptT_take (f := f) hl
  rw [if_pos hf] at e
  refine ⟨?_, h.grown, by rw [e]; exact h.len, by simp⟩
  have ho := h.own
  rw [drop_cons hl] at ho
  rw [e]
  simpa using ho
theorem DInvT.keep (h : DInvT w wr B g n cap f ls i j X) (hl : ls[j]? = some l) (hf : f l = false) : ∃ X', DInvT w (wr.setCells g (i * 2) (cc l)) B g n cap f ls (i + 1) (j + 1) X' := by
  have e := keptT_take (f := f) hl
  rw [if_neg (by rw [hf]; simp)] at e
  obtain ⟨x, X2, hx⟩ : ∃ x X2, X ++ [l] = x :: X2 ∧ 0 < X2.length := by
    have hs := h.some_
    cases X with
    | nil => simp at hs
    | cons x X2 => exact ⟨x, X2 ++ [l], rfl, by simp⟩
  refine ⟨X2, ?_, grown_trans h.grown (grownBy_setCells (g := g) wr (i * 2) (cc l)), by rw [e, List.length_append, h.len]; rfl, hx.2⟩
  have ho := h.own
  rw [drop_cons hl] at ho
  have e2 : keptT f (ls.take j) ++ X ++ l :: ls.drop (j + 1) = keptT f (ls.take j) ++ x :: (X2 ++ ls.drop (j + 1)) := by
    have : X ++ l :: ls.drop (j + 1) = (X ++ [l]) ++ ls.drop (j + 1) := by simp
    rw [List.append_assoc, this, hx.1]
    simp
  rw [e2] at ho
  have := ho.set (y := l)
  rw [h.len] at this
  rw [e]
  simpa using this
end
end Go.Proofs.YtjklhiifjnmedaaGreatDoor
namespace Go.Proofs.YtjklhiifjnmedaaGreatDoor
open Go.RowKit P43
attribute [local go_sem] ByteArray.mk_append_mk ByteArray.extract_mk mk_index

theorem DInvT.sum {w wr : World} {B g n cap i j : Nat} {f : Cm → Bool} {ls X : List Cm} (h : DInvT w wr B g n cap f ls i j X) (hl : ls.length = n) (hj : j ≤ n) : i + X.length = j := by
  obtain ⟨cur, _, _, h3, _⟩ := h.own.blk
  simp [h.len] at h3
  omega
theorem DInvT.row {w wr : World} {B g n cap i j : Nat} {f : Cm → Bool} {ls X : List Cm} {l : Cm} (h : DInvT w wr B g n cap f ls i j X) (hn : ls.length = n) (hl : ls[j]? = some l) :
    ∀ (k : Nat) (u : Value), (#[.int .i64 l.1.id, .map (some l.2)] : Array Value)[k]? = some u → wr.cell? ((⟨g, j * 2, none⟩ : Addr).add k) = some u := by
  have hj : j < n := by
    have := (List.getElem?_eq_some_iff.1 hl).1
    omega
  have hs := h.sum hn (by omega)
  obtain ⟨A9, c9, h9, hq9, -⟩ := h.own.cells
  injection h9 with h91 h92 h93
  subst h91
  have e : (keptT f (ls.take j) ++ X ++ ls.drop j)[j]? = some l := by
    rw [List.getElem?_append_right (by rw [List.length_append, h.len]; omega), List.length_append, h.len, hs, Nat.sub_self, List.getElem?_drop, Nat.add_zero, hl]
  intro k u hk
  have := hq9.row e k u hk
  simpa using this
set_option maxRecDepth 100000 in
set_option maxHeartbeats 1000000 in
theorem clDeleteFunc_none (g0 b0 : Nat) (f : Cm → Bool) (B : Nat) (v : Value) (ls : List Cm) (w : World) (hown : OwnK w B 61 v ls) (hn : ls.length ≤ 1000000) (hf : AsksGT g0 b0 f w v.ownBlock) (hi : ls.findIdx? f = none) :
    Calls Tryz.prog 61 #[v, clo g0 b0] w fun e w' => e = .returned v ∧ Below w.heap.size w w' := by
  obtain ⟨A, c, rfl, hs, -⟩ := hown.cells
  have HS := Lib.hid hs
  have HF := Lib.hid hf
  have HI := Lib.hid (show fIdxT f ls = -1 from by unfold fIdxT; rw [hi])
  clear hs hf hi hown
  unfold clo
  go_enter Tryz.func61, Tryz.ntmps61
  go_wp2_with fail
  refine (clIndexFunc g0 b0 f _ _ _ ls _ HS.out hn HF.out.asks).mono ?_
  rintro e w2 ⟨rfl, hb2⟩
  rw [HI.out]
  go_wp2
  go_ret
  exact ⟨rfl, hb2⟩
set_option maxRecDepth 100000 in
set_option maxHeartbeats 2000000 in
theorem clDeleteFunc_some (g0 b0 : Nat) (f : Cm → Bool) (B g n cap : Nat) (ls : List Cm) (w : World) (hown : OwnK w B 61 (.slice (some ⟨g, 0, none⟩) n cap) ls) (hn : n ≤ 1000000) (hf : AsksGT g0 b0 f w (some g)) (k0 : Nat) (hi : ls.findIdx? f = some k0) :
    Calls Tryz.prog 61 #[.slice (some ⟨g, 0, none⟩) n cap, clo g0 b0] w fun e w' => ∃ m, e = .returned (.slice (some ⟨g, 0, none⟩) m cap) ∧ OwnK w' B 61 (.slice (some ⟨g, 0, none⟩) m cap) (keptT f ls) ∧ w.grownBy w' (some g) := by
  have hcap := hown.cap
  have hln : ls.length = n := by
    obtain ⟨cur, _, _, h3, _⟩ := hown.blk
    exact h3.symm
  obtain ⟨l0, hl0, hk0⟩ := keptT_some hi
  have hk0n : k0 < n := by
    have := (List.getElem?_eq_some_iff.1 hl0).1
    omega
  have hs : ClsAt w (some ⟨g, 0, none⟩) n ls := by
    obtain ⟨A9, c9, h9, hq9, -⟩ := hown.cells
    injection h9 with h91 h92 h93
    subst h91
    rw [hln] at hq9
    exact hq9
  have HS := Lib.hid hs
  have HF := Lib.hid hf
  have HLN := Lib.hid hln
  have HI := Lib.hid (show fIdxT f ls = k0 from by unfold fIdxT; rw [hi])
  have HD0 := Lib.hid (show ∀ w2, Below w.heap.size w w2 → DInvT w w2 B g n cap f ls k0 (k0 + 1) [l0] from fun w2 hb => by
    refine ⟨?_, grown_of_below _ hb, by rw [hk0]; simp; omega, by simp⟩
    rw [hk0]
    have e : ls.take k0 ++ [l0] ++ ls.drop (k0 + 1) = ls := by
      rw [← take_snoc hl0, List.take_append_drop]
    rw [e]
    exact hown.below hb)
  clear hs hf hi hown hl0 hk0 hln
  have hlenL : (Tryz.prog.info? 61).map (·.size) = some 2 := by kernel_rfl
  unfold clo
  go_enter Tryz.func61, Tryz.ntmps61
  go_wp2_with fail
  refine (clIndexFunc g0 b0 f _ _ _ ls _ HS.out hn HF.out.asks).mono ?_
  rintro e w2 ⟨rfl, hb2⟩
  rw [HI.out]
  have HD := Lib.hid (HD0.out w2 hb2)
  clear hb2 HD0 HI HS
  have hb0 : ((k0 : Int) == -1) = false := beq_not (by omega)
  go_wp2
  have hkn := HF.out.known
  go_loopw [5, 6] (fun iv jv wr => ∃ (i j : Nat) (X : List Cm), j ≤ n ∧ iv = .int .i64 i ∧ jv = .int .i64 j ∧ DInvT w wr B g n cap f ls i j X) (fun _ jv _ => n - (intOf jv).toNat)
  case atStart => exact ⟨k0, k0 + 1, _, by omega, rfl, by go_num, HD.out⟩
  case round =>
    obtain ⟨i, j, X, hj, rfl, rfl, hin⟩ := hrel
    have HIN := Lib.hid hin
    have hsum := hin.sum HLN.out hj
    have hx := hin.some_
    clear hin
    by_cases hlt : j < n
    · obtain ⟨l, hl⟩ : ∃ l, ls[j]? = some l := ⟨_, List.getElem?_eq_getElem (by rw [HLN.out]; exact hlt)⟩
      have HL := Lib.hid hl
      have HR := Lib.hid (HIN.out.row HLN.out hl)
      clear hl
      go_upto_region 8 with (refine wpList_load_cells rfl 61 (.tmp 24) rfl ⟨g, j * 2, none⟩ rfl _ _ HR.out Tryz.underlying61 rfl hlenL ?_)
      obtain ⟨w4, g4, e1, e2, hb4, h4⟩ := boxes1 wr 61 (ca l)
      unfold ca at e1
      rw [e1, e2]
      have HIN4 := Lib.hid (HIN.out.next hb4)
      have HC4 := Lib.hid h4.add
      have HB4 := Lib.hid h4
      clear e1 e2 hb4 h4
      go_wp2_with (refine wpList_load_cells rfl 61 (.tmp 7) rfl ⟨g4, 0, none⟩ rfl _ _ HC4.out Tryz.underlying61 rfl hlenL ?_)
      refine (HF.out.ask l _ HIN4.out.grown).mono ?_
      rintro e w5 ⟨rfl, hb5⟩
      have HIN5 := Lib.hid (HIN4.out.next hb5)
      have HC5 := Lib.hid (HB4.out.below hb5).add
      clear hb5
      cases hfl : f l with
      | true =>
        have HN := Lib.hid (HIN5.out.skip HL.out hfl)
        clear hfl
        go_wp2
        go_roundw
        case rel => exact ⟨i, j + 1, _, by omega, rfl, by go_num, HN.out⟩
        case measure => simp [intOf]; omega
      | false =>
        obtain ⟨X', hN⟩ := HIN5.out.keep HL.out hfl
        have HN := Lib.hid (show DInvT w (w5.setCells g (i * 2) (ca l).toList) B g n cap f ls (i + 1) (j + 1) X' from hN)
        obtain ⟨cur, hblk, hsz, -⟩ := HIN5.out.own.blk
        have HTH := Lib.hid (hblk.there (o := i * 2) (n := (ca l).size) (by rw [hsz]; simp [ca]; omega))
        clear hfl hN hblk hsz
        go_wp2_with (first | (refine wpList_load_cells rfl 61 (.tmp 7) rfl ⟨g4, 0, none⟩ rfl _ _ HC5.out Tryz.underlying61 rfl hlenL ?_) | (refine wpList_store_mid rfl 61 (.tmp 33) (.tmp 32) rfl g (i * 2) (ca l) rfl rfl HTH.out hlenL (ca_all l) ?_; generalize w5.setCells g (i * 2) (ca l).toList = w6 at HN ⊢))
        go_roundw
        case rel => exact ⟨i + 1, j + 1, X', by omega, by go_num, by go_num, HN.out⟩
        case measure => simp [intOf]; omega
    · have hjn : j = n := by omega
      subst hjn
      have HO := Lib.hid (show OwnK wr B 61 (.slice (some ⟨g, 0, none⟩) i cap) (keptT f ls) from by
        have ho := HIN.out.own
        have e1 : ls.take j = ls := List.take_of_length_le (by rw [HLN.out]; exact Nat.le_refl _)
        have hl := HIN.out.len
        rw [e1] at ho hl
        rw [List.append_assoc] at ho
        have := ho.front
        rw [hl] at this
        exact this)
      obtain ⟨cur, hblk, hsz, -⟩ := HIN.out.own.blk
      have HB := Lib.hid hblk
      have HSZ := Lib.hid hsz
      have HZV := Lib.hid (show ∀ w, (zeroValue 61).run Tryz.prog w = .ok (.agg #[.int .i64 0, .map none]) w from fun _ => by kernel_rfl)
      have hij : i < j := by omega
      have hci : ¬ cap = i := by omega
      clear hblk hsz hsum hx HD hj hlt hkn
      go_wp2_with (refine wpList_clear_row rfl (.tmp 38) _ rfl 61 _ 2 Tryz.underlying64 HZV.out rfl z_oneT g (i * 2) (j - i) (cap - i) _ _ rfl HB.out (by rw [HSZ.out]; omega) ?_; intro zs hzs)
      go_ret
      exact ⟨i, rfl, HO.out.tail (Nat.le_refl _) (by omega), grown_trans HIN.out.grown (grownBy_setCells (g := g) wr (i * 2) zs)⟩
/-- Those that stay, in the row that there was. -/
theorem clDeleteFunc (g0 b0 : Nat) (f : Cm → Bool) (B : Nat) (v : Value) (ls : List Cm) (w : World) (hown : OwnK w B 61 v ls) (hn : ls.length ≤ 1000000) (hf : AsksGT g0 b0 f w v.ownBlock) :
    Calls Tryz.prog 61 #[v, clo g0 b0] w fun e w' => ∃ v', e = .returned v' ∧ OwnK w' B 61 v' (keptT f ls) ∧ w.grownBy w' v.ownBlock ∧ v'.ownBlock = v.ownBlock := by
  cases hi : ls.findIdx? f with
  | none =>
    refine (clDeleteFunc_none g0 b0 f B v ls w hown hn hf hi).mono ?_
    rintro e w' ⟨rfl, hb⟩
    exact ⟨v, rfl, by rw [keptT_none hi]; exact hown.below hb, grown_of_below _ hb, rfl⟩
  | some k =>
    rcases hown.val with ⟨rfl, rfl⟩ | ⟨g, cap, rfl⟩
    · simp at hi
    · refine (clDeleteFunc_some g0 b0 f B g _ cap ls w hown hn hf k hi).mono ?_
      rintro e w' ⟨m, rfl, ho, hg⟩
      exact ⟨_, rfl, ho, hg, rfl⟩
end Go.Proofs.YtjklhiifjnmedaaGreatDoor
namespace Go.Proofs.YtjklhiifjnmedaaGreatDoor
open Go.RowKit P43

/-- The cells of a claim. -/
def nc (l : (Nm × Bool)) : List Value := [.string ⟨l.1.toArray⟩, .bool l.2]
/-- .. as one struct's cells. -/
def na (l : (Nm × Bool)) : Array Value := #[.string ⟨l.1.toArray⟩, .bool l.2]
def ncs (ls : List (Nm × Bool)) : List Value := ls.flatMap nc
theorem ncs_nil : ncs [] = [] := rfl
theorem ncs_cons (l : (Nm × Bool)) (ls : List (Nm × Bool)) : ncs (l :: ls) = nc l ++ ncs ls := rfl
theorem ncs_append (a b : List (Nm × Bool)) : ncs (a ++ b) = ncs a ++ ncs b := by simp [ncs]
theorem ncs_length (ls : List (Nm × Bool)) : (ncs ls).length = ls.length * 2 := by
  induction ls with
  | nil => rfl
  | cons l ls ih => rw [ncs_cons, List.length_append, ih]; simp [nc]; omega
theorem ncs_get : ∀ {ls : List (Nm × Bool)} {k : Nat} {l : (Nm × Bool)}, ls[k]? = some l → ∀ j, j < 2 → (ncs ls)[k * 2 + j]? = (nc l)[j]?
  | [], k, l, h, j, hj => by simp at h
  | y :: ls, 0, l, h, j, hj => by
    simp only [List.getElem?_cons_zero, Option.some.injEq] at h
    subst h
    rw [ncs_cons, Nat.zero_mul, Nat.zero_add, List.getElem?_append_left (by simpa [nc] using hj)]
  | y :: ls, k + 1, l, h, j, hj => by
    rw [ncs_cons, List.getElem?_append_right (by simp [nc]; omega)]
    have := ncs_get (ls := ls) (k := k) (l := l) (by simpa using h) j hj
    rw [← this]
    congr 1
    simp [nc]
    omega
theorem nc_one (l : (Nm × Bool)) : ∀ u ∈ nc l, u.oneCell' = true := by
  intro u hu
  simp [nc] at hu
  rcases hu with rfl | rfl <;> rfl
theorem ncs_one (ls : List (Nm × Bool)) : ∀ u ∈ ncs ls, u.oneCell' = true := by
  intro u hu
  obtain ⟨l, _, hu⟩ := List.mem_flatMap.1 hu
  exact nc_one l u hu
/-- A lock as the program holds it. -/
def nv (l : (Nm × Bool)) : Value := .agg #[.string ⟨l.1.toArray⟩, .bool l.2]

/-- The slice '.slice A n c' reads as the locks 'ls'. -/
def NlsAt (w : World) (A : Option Addr) (n : Nat) (ls : List (Nm × Bool)) : Prop := CellsAt w A n 2 (ncs ls)
section
variable {w w' : World} {A : Option Addr} {n c : Nat} {ls : List (Nm × Bool)} {B : Nat} {e : TypeId} {v : Value}
theorem NlsAt.nil : NlsAt w A 0 [] := ⟨rfl, fun j u h => by simp [ncs_nil] at h⟩
theorem NlsAt.len (h : NlsAt w A n ls) : ls.length = n := by
  have := h.1
  rw [ncs_length] at this
  omega
theorem NlsAt.below (h : NlsAt w A n ls) (hb : Below w.heap.size w w') : NlsAt w' A n ls := CellsAt.below h hb
/-- The k-th claim's cells. -/
theorem NlsAt.at_ (h : NlsAt w A n ls) {k : Nat} (hk : k < n) : ∃ b off l, A = some ⟨b, off, none⟩ ∧ ls[k]? = some l ∧ w.cell? ⟨b, off + k * 2, none⟩ = some (.string ⟨l.1.toArray⟩) ∧ w.cell? ⟨b, off + k * 2 + 1, none⟩ = some (.bool l.2) := by
  have hl := h.len
  have hk' : k < ls.length := by omega
  have hg : ls[k]? = some ls[k] := List.getElem?_eq_getElem hk'
  have hc := fun j hj => ncs_get hg j hj
  obtain ⟨b, off, rfl, h0⟩ := h.2 (k * 2 + 0) _ (hc 0 (by omega))
  have key : ∀ j u, j < 2 → (nc ls[k])[j]? = some u → w.cell? ⟨b, off + (k * 2 + j), none⟩ = some u := by
    intro j u hj hu
    obtain ⟨b', off', he, h1⟩ := h.2 (k * 2 + j) u (by rw [hc j hj]; exact hu)
    injection he with he
    injection he with he1 he2
    subst he1 he2
    exact h1
  refine ⟨b, off, ls[k], rfl, hg, ?_, ?_⟩
  · have := key 0 _ (by omega) rfl; simpa using this
  · have := key 1 _ (by omega) rfl; rw [Nat.add_assoc]; exact this
/-- The slice value v is nil, or a row of the call's own (in a block from B on), and its elements are the locks 'ls'. -/
def OwnN (w : World) (B : Nat) (e : TypeId) (v : Value) (ls : List (Nm × Bool)) : Prop := w.ownsRow B e 2 v ls.length (ncs ls)
theorem OwnN.nil (w : World) (B : Nat) (e : TypeId) : OwnN w B e (.slice none 0 0) [] := World.ownsRow_nil w B e 2
theorem OwnN.alloc (h : OwnN w B e v ls) (o : Obj) : OwnN (w.alloc o) B e v ls := World.ownsRow.alloc h o
theorem OwnN.drewN (h : OwnN w B e v ls) (k : Nat) : OwnN (w.drewN k) B e v ls := h
theorem OwnN.drew (h : OwnN w B e v ls) : OwnN w.drew B e v ls := h
theorem OwnN.below (h : OwnN w B e v ls) (hb : Below w.heap.size w w') : OwnN w' B e v ls :=
  World.ownsRow.kept (row := none) h ⟨hb.os, hb.tape, hb.output, hb.size, fun k hk _ => hb.block k hk⟩ (by cases v.ownBlock <;> simp)
theorem OwnN.kept {row : Option Nat} (h : OwnN w B e v ls) (hg : w.grownBy w' row) (hne : v.ownBlock = none ∨ v.ownBlock ≠ row) : OwnN w' B e v ls := World.ownsRow.kept h hg hne
theorem OwnN.lt (h : OwnN w B e v ls) : ∀ k, v.ownBlock = some k → B ≤ k ∧ k < w.heap.size := World.ownsRow.lt h
theorem OwnN.cells (h : OwnN w B e v ls) : ∃ A c, v = .slice A ls.length c ∧ NlsAt w A ls.length ls ∧ ls.length ≤ maxLen := by
  rcases h.2 with ⟨rfl, h0⟩ | ⟨g, cap, cur, rfl, _, _, h1, h2, _⟩
  · have : ls = [] := List.eq_nil_of_length_eq_zero h0
    subst this
    exact ⟨none, 0, rfl, NlsAt.nil, Nat.zero_le _⟩
  · refine ⟨_, _, rfl, ⟨h.1, fun j u hj => ⟨g, 0, rfl, ?_⟩⟩, Nat.le_trans h1 h2⟩
    have := h.2
    have hc := World.ownsRow.cells h (g := g) rfl j u hj
    rw [Addr.add_lit] at hc
    exact hc
end

/-- The cells of the k-th lock of a slice, as one struct. -/
theorem NlsAt.row {w : World} {b off n : Nat} {ls : List (Nm × Bool)} (h : NlsAt w (some ⟨b, off, none⟩) n ls) {k : Nat} {l : (Nm × Bool)} (hl : ls[k]? = some l) :
    ∀ j u, (#[.string ⟨l.1.toArray⟩, .bool l.2] : Array Value)[j]? = some u → w.cell? ((⟨b, off + k * 2, none⟩ : Addr).add j) = some u := by
  intro j u hj
  have hj2 : j < 2 := (Array.getElem?_eq_some_iff.1 hj).1
  have hu : (ncs ls)[k * 2 + j]? = some u := by
    rw [ncs_get hl j hj2]
    simpa [nc] using hj
  obtain ⟨b', off', he, h1⟩ := h.2 _ u hu
  injection he with he
  injection he with he1 he2
  subst he1 he2
  rw [Addr.add_lit]
  show w.cell? ⟨b, off + k * 2 + j, none⟩ = some u
  rw [Nat.add_assoc]
  exact h1
/-- 'append(s, l)', s a row of the call's own, l a lock in a new block. -/
theorem wpList_append_nl {P : Program} {w : World} {ops : Array Oper} {rest : List Oper} {o : Oper} {a : Act} {Q : Exit → Act → World → Prop} (hgd : o.guard = none) (s x : Operand) (t : TypeId)
    (ho : o.op = .call { callee := .builtin .append, args := #[s, x], argTypes := #[t, t] })
    (base : Nat) (e : TypeId) (i : TypeInfo) (z : Value) (bytes : Nat) (ht : P.underlying t = some (.slice e)) (hi : P.info? e = some i) (hz : i.zero = some z)
    (hsize : i.size = 2) (hby : i.bytes = bytes) (hzs : z.cells.size = 2) (hb6 : bytes ≤ 1000)
    (v : Value) (ls : List (Nm × Bool)) (hs : a.eval s = v) (hown : OwnN w base e v ls) (l : (Nm × Bool)) (b off c : Nat) (hx : a.eval x = .slice (some ⟨b, off, none⟩) 1 c) (hc : NlsAt w (some ⟨b, off, none⟩) 1 [l])
    (hlen : ls.length ≤ 1000000) (hbase : base ≤ w.heap.size)
    (h : ∀ v' w', OwnN w' base e v' (ls ++ [l]) → w.grownBy w' v.ownBlock → (v'.ownBlock = v.ownBlock ∨ v'.ownBlock = some w.heap.size) → v' ≠ .slice none 0 0 → wpList P ops Q rest (a.put o.dst v') w') :
    wpList P ops Q (o :: rest) a w := by
  refine wpList_append_own_at (P := P) w hgd s x t ho base e i z 2 bytes ht hi hz hsize hby hzs (by omega) v ls.length _ hs hown ⟨b, off, none⟩ 1 c (ncs [l]) hx (by rw [ncs_length]; rfl) ?_ (ncs_one _) (by unfold maxLen; omega) (Nat.le_trans (Nat.mul_le_mul (Nat.add_le_add_right hlen 1) hb6) (by decide)) hbase ?_
  · intro j u hj
    obtain ⟨b', off', he, h1⟩ := hc.2 j u hj
    injection he with he
    injection he with he1 he2
    subst he1 he2
    rw [Addr.add_lit]
    exact h1
  · intro v' w' h1 h2 h3 h4
    refine h v' w' ?_ h2 h4 (fun e => by have := (h3.1 e).2; omega)
    unfold OwnN
    rw [List.length_append, ncs_append]
    exact h1
/-- A lock in a new block of its own. -/
theorem NlsAt.lit1 (w : World) (e : TypeId) (l : (Nm × Bool)) : NlsAt (w.alloc (.cells #[.string ⟨l.1.toArray⟩, .bool l.2] e)) (some ⟨w.heap.size, 0, none⟩) 1 [l] := by
  refine ⟨by rw [ncs_length]; rfl, fun j u hj => ⟨_, _, rfl, ?_⟩⟩
  rw [Nat.zero_add, World.cell?_alloc_mark w _ e (0, 0) j]
  simpa [ncs, nc] using hj
end Go.Proofs.YtjklhiifjnmedaaGreatDoor
namespace Go.Proofs
open Go.Shelf
def Tryz.keysS_ren : Go.Shelf.Ren := ⟨fun | 7 => 34 | 10 => 65 | n => n, fun | 23 => 59 | 26 => 9 | 3 => 4 | 28 => 80 | 0 => 0 | 27 => 79 | 33 => 22 | 4 => 4 | n => n, fun | n => n⟩
theorem Tryz.keysS : Go.Proofs.SlLaysZ.n7 Tryz.prog Tryz.keysS_ren := {
  mixed := by kernel_rfl
  f7 := ⟨Tryz.f34.name, by decide, Tryz.func34.trans (congrArg some (by kernel_rfl))⟩
  f10 := ⟨Tryz.f65.name, by decide, Tryz.func65.trans (congrArg some (by kernel_rfl))⟩
  t0 := Tryz.underlying0
  a0 := Tryz.isAgg0
  z0 := Tryz.sizeOf0
  v0 := Tryz.zeroValue0
  t4 := Tryz.underlying4
  a4 := Tryz.isAgg4
  z4 := Tryz.sizeOf4
  v4 := Tryz.zeroValue4
  t23 := Tryz.underlying59
  a23 := Tryz.isAgg59
  z23 := Tryz.sizeOf59
  v23 := Tryz.zeroValue59
  t26 := Tryz.underlying9
  a26 := Tryz.isAgg9
  z26 := Tryz.sizeOf9
  v26 := Tryz.zeroValue9
  t27 := Tryz.underlying79
  a27 := Tryz.isAgg79
  z27 := Tryz.sizeOf79
  v27 := Tryz.zeroValue79
  t28 := Tryz.underlying80
  a28 := Tryz.isAgg80
  z28 := Tryz.sizeOf80
  v28 := Tryz.zeroValue80
  t33 := Tryz.underlying22
  a33 := Tryz.isAgg22
  z33 := Tryz.sizeOf22
  v33 := Tryz.zeroValue22 }
def Tryz.sortedS_ren : Go.Shelf.Ren := ⟨fun | 6 => 33 | 8 => 63 | 9 => 64 | 11 => 89 | 13 => 86 | 12 => 90 | 23 => 110 | 24 => 111 | 14 => 112 | 15 => 113 | 16 => 114 | 17 => 115 | 18 => 116 | 19 => 117 | 20 => 118 | 21 => 119 | 22 => 120 | 25 => 133 | 26 => 128 | 27 => 129 | 28 => 134 | 29 => 135 | 30 => 136 | 31 => 143 | n => n, fun | 26 => 9 | 28 => 80 | 24 => 77 | 0 => 0 | 3 => 3 | 37 => 122 | 48 => 140 | 50 => 142 | 4 => 4 | 40 => 134 | 39 => 133 | 45 => 83 | 5 => 5 | 9 => 9 | 51 => 152 | 55 => 156 | 57 => 164 | 58 => 165 | 33 => 22 | n => n, fun | n => n⟩
theorem Tryz.sortedS : Go.Proofs.SlLaysZ.n6 Tryz.prog Tryz.sortedS_ren := {
  mixed := by kernel_rfl
  f6 := ⟨Tryz.f33.name, by decide, Tryz.func33.trans (congrArg some (by kernel_rfl))⟩
  f8 := ⟨Tryz.f63.name, by decide, Tryz.func63.trans (congrArg some (by kernel_rfl))⟩
  f11 := ⟨Tryz.f89.name, by decide, Tryz.func89.trans (congrArg some (by kernel_rfl))⟩
  t0 := Tryz.underlying0
  a0 := Tryz.isAgg0
  z0 := Tryz.sizeOf0
  v0 := Tryz.zeroValue0
  t24 := Tryz.underlying77
  a24 := Tryz.isAgg77
  z24 := Tryz.sizeOf77
  v24 := Tryz.zeroValue77
  t26 := Tryz.underlying9
  a26 := Tryz.isAgg9
  z26 := Tryz.sizeOf9
  v26 := Tryz.zeroValue9
  t28 := Tryz.underlying80
  a28 := Tryz.isAgg80
  z28 := Tryz.sizeOf80
  v28 := Tryz.zeroValue80
  i26 := by kernel_rfl }
def Tryz.sortS_ren : Go.Shelf.Ren := ⟨fun | 6 => 64 | 8 => 86 | 9 => 90 | 19 => 110 | 20 => 111 | 21 => 112 | 22 => 113 | 23 => 114 | 24 => 115 | 25 => 116 | 26 => 117 | 27 => 118 | 28 => 119 | 29 => 120 | 36 => 133 | 31 => 128 | 32 => 129 | 37 => 134 | 38 => 135 | 39 => 136 | 41 => 143 | n => n, fun | 27 => 77 | 29 => 9 | 3 => 3 | 32 => 122 | 26 => 77 | 0 => 0 | 44 => 140 | 46 => 142 | 4 => 4 | 36 => 134 | 35 => 133 | 41 => 83 | 5 => 5 | 9 => 9 | 53 => 152 | 57 => 156 | 63 => 164 | 64 => 165 | n => n, fun | n => n⟩
theorem Tryz.sortS : Go.Proofs.SlLaysM.n6 Tryz.prog Tryz.sortS_ren := {
  mixed := by kernel_rfl
  f6 := ⟨Tryz.f64.name, by decide, Tryz.func64.trans (congrArg some (by kernel_rfl))⟩
  f8 := Tryz.func86.trans (congrArg some (by kernel_rfl))
  f9 := ⟨Tryz.f90.name, by decide, Tryz.func90.trans (congrArg some (by kernel_rfl))⟩
  f19 := Tryz.func110.trans (congrArg some (by kernel_rfl))
  f20 := Tryz.func111.trans (congrArg some (by kernel_rfl))
  f21 := ⟨Tryz.f112.name, by decide, Tryz.func112.trans (congrArg some (by kernel_rfl))⟩
  f22 := ⟨Tryz.f113.name, by decide, Tryz.func113.trans (congrArg some (by kernel_rfl))⟩
  f23 := ⟨Tryz.f114.name, by decide, Tryz.func114.trans (congrArg some (by kernel_rfl))⟩
  f24 := ⟨Tryz.f115.name, by decide, Tryz.func115.trans (congrArg some (by kernel_rfl))⟩
  f25 := ⟨Tryz.f116.name, by decide, Tryz.func116.trans (congrArg some (by kernel_rfl))⟩
  f26 := ⟨Tryz.f117.name, by decide, Tryz.func117.trans (congrArg some (by kernel_rfl))⟩
  f27 := ⟨Tryz.f118.name, by decide, Tryz.func118.trans (congrArg some (by kernel_rfl))⟩
  f28 := ⟨Tryz.f119.name, by decide, Tryz.func119.trans (congrArg some (by kernel_rfl))⟩
  f29 := ⟨Tryz.f120.name, by decide, Tryz.func120.trans (congrArg some (by kernel_rfl))⟩
  f31 := Tryz.func128.trans (congrArg some (by kernel_rfl))
  f32 := Tryz.func129.trans (congrArg some (by kernel_rfl))
  f36 := ⟨Tryz.f133.name, by decide, Tryz.func133.trans (congrArg some (by kernel_rfl))⟩
  f37 := ⟨Tryz.f134.name, by decide, Tryz.func134.trans (congrArg some (by kernel_rfl))⟩
  f38 := ⟨Tryz.f135.name, by decide, Tryz.func135.trans (congrArg some (by kernel_rfl))⟩
  f39 := ⟨Tryz.f136.name, by decide, Tryz.func136.trans (congrArg some (by kernel_rfl))⟩
  f41 := ⟨Tryz.f143.name, by decide, Tryz.func143.trans (congrArg some (by kernel_rfl))⟩
  t0 := Tryz.underlying0
  a0 := Tryz.isAgg0
  z0 := Tryz.sizeOf0
  v0 := Tryz.zeroValue0
  t3 := Tryz.underlying3
  a3 := Tryz.isAgg3
  z3 := Tryz.sizeOf3
  v3 := Tryz.zeroValue3
  t4 := Tryz.underlying4
  a4 := Tryz.isAgg4
  z4 := Tryz.sizeOf4
  v4 := Tryz.zeroValue4
  t5 := Tryz.underlying5
  a5 := Tryz.isAgg5
  z5 := Tryz.sizeOf5
  v5 := Tryz.zeroValue5
  t9 := Tryz.underlying9
  a9 := Tryz.isAgg9
  z9 := Tryz.sizeOf9
  v9 := Tryz.zeroValue9
  t26 := Tryz.underlying77
  a26 := Tryz.isAgg77
  z26 := Tryz.sizeOf77
  v26 := Tryz.zeroValue77
  t27 := Tryz.underlying77
  a27 := Tryz.isAgg77
  z27 := Tryz.sizeOf77
  v27 := Tryz.zeroValue77
  t29 := Tryz.underlying9
  a29 := Tryz.isAgg9
  z29 := Tryz.sizeOf9
  v29 := Tryz.zeroValue9
  t32 := Tryz.underlying122
  a32 := Tryz.isAgg122
  z32 := Tryz.sizeOf122
  v32 := Tryz.zeroValue122
  t35 := Tryz.underlying133
  a35 := Tryz.isAgg133
  z35 := Tryz.sizeOf133
  v35 := Tryz.zeroValue133
  t36 := Tryz.underlying134
  a36 := Tryz.isAgg134
  z36 := Tryz.sizeOf134
  v36 := Tryz.zeroValue134
  t41 := Tryz.underlying83
  a41 := Tryz.isAgg83
  z41 := Tryz.sizeOf83
  v41 := Tryz.zeroValue83
  t44 := Tryz.underlying140
  a44 := Tryz.isAgg140
  z44 := Tryz.sizeOf140
  v44 := Tryz.zeroValue140
  t46 := Tryz.underlying142
  a46 := Tryz.isAgg142
  z46 := Tryz.sizeOf142
  v46 := Tryz.zeroValue142
  t53 := Tryz.underlying152
  a53 := Tryz.isAgg152
  z53 := Tryz.sizeOf152
  v53 := Tryz.zeroValue152
  t57 := Tryz.underlying156
  a57 := Tryz.isAgg156
  z57 := Tryz.sizeOf156
  v57 := Tryz.zeroValue156
  t63 := Tryz.underlying164
  a63 := Tryz.isAgg164
  z63 := Tryz.sizeOf164
  v63 := Tryz.zeroValue164
  t64 := Tryz.underlying165
  a64 := Tryz.isAgg165
  z64 := Tryz.sizeOf165
  v64 := Tryz.zeroValue165 }
end Go.Proofs
