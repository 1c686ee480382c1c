/- Words for memory that all walks of this seat use: a slice that reads as a list of strings, and what stays of it; plain theorems, no function of the program in sight. -/
import Derived.WalkKit
import Derived.WalkSpells
import Derived.WalkLawsBesides
import Derived.Deep.AppendLies
import Derived.Deep.Draws
import Derived.BigQuiet
import Derived.Deep.QuietTactic
import Derived.Lib.QuietBelow
import Derived.Lib.Hide
import Derived.Laws.IdiomStrings
import Derived.ArgAppend
import Derived.Laws.BitsAllLaws
import Derived.Laws.BitsLemmas
namespace Go.Proofs.YtjklhiifjnmedaaGreatDoor
open Go.RowKit

theorem bcell {W w1 : World} (hb : Below W.heap.size W w1) : (∀ b o, b < W.heap.size → w1.cell? ⟨b, o, none⟩ = W.cell? ⟨b, o, none⟩) ∧ (∀ b o, b < W.heap.size → w1.frozen? ⟨b, o, none⟩ = W.frozen? ⟨b, o, none⟩) :=
  ⟨fun b o h => hb.cell (p := ⟨b, o, none⟩) h, fun b o h => hb.frozen (p := ⟨b, o, none⟩) h⟩
theorem below_drewN {B : Nat} {a w : World} (h : Below B a w) (n : Nat) : Below B a (w.drewN n) := ⟨h.os, h.tape, h.output, h.size, h.block⟩
/-- Two steps: each keeps all that was there when it began. -/
theorem below_then {a b c : World} (h : Below a.heap.size a b) (k : Below b.heap.size b c) : Below a.heap.size a c := h.trans (k.mono h.size)

theorem below_alloc {a b : World} (h : Below a.heap.size a b) (o : Obj) : Below a.heap.size a (b.alloc o) := h.alloc h.size _

/-- The same behind a relation that speaks of the blocks below B. -/
theorem below_then_ {B : Nat} {a b c : World} (h : Below B a b) (k : Below b.heap.size b c) (hB : B ≤ a.heap.size := by exact Nat.le_refl _) : Below B a c := h.trans (k.mono (Nat.le_trans hB h.size))

/-- The slice '.slice A n c' reads, in the world w, as the strings 'ss'. -/
def StrsAt (w : World) (A : Option Addr) (n : Nat) (ss : List (List UInt8)) : Prop :=
  ss.length = n ∧ ∀ k s, ss[k]? = some s → ∃ b off, A = some ⟨b, off, none⟩ ∧ w.cell? ⟨b, off + k, none⟩ = some (.string ⟨s.toArray⟩)

section
variable {w w' : World} {A : Option Addr} {n : Nat} {ss : List (List UInt8)}
theorem StrsAt.nil : StrsAt w A 0 [] := ⟨rfl, fun k s h => by simp at h⟩
theorem StrsAt.len (h : StrsAt w A n ss) : ss.length = n := h.1
theorem StrsAt.at_ (h : StrsAt w A n ss) {k : Nat} (hk : k < n) : ∃ b off s, A = some ⟨b, off, none⟩ ∧ ss[k]? = some s ∧ w.cell? ⟨b, off + k, none⟩ = some (.string ⟨s.toArray⟩) := by
  have hl : k < ss.length := by have := h.1; omega
  obtain ⟨b, off, h1, h2⟩ := h.2 k ss[k] (List.getElem?_eq_getElem hl)
  exact ⟨b, off, ss[k], h1, List.getElem?_eq_getElem hl, h2⟩
theorem StrsAt.below (h : StrsAt w A n ss) (hb : Below w.heap.size w w') : StrsAt w' A n ss :=
  ⟨h.1, fun k s hs => by
    obtain ⟨b, off, h1, h2⟩ := h.2 k s hs
    exact ⟨b, off, h1, by rw [hb.cell (p := ⟨b, off + k, none⟩) (World.block_lt_of_cell? w _ h2)]; exact h2⟩⟩
theorem StrsAt.of_own {base c : Nat} {e : TypeId} (h : w.ownsRow base e 1 (.slice A n c) n (ss.map fun s => .string ⟨s.toArray⟩)) : StrsAt w A n ss := by
  have hl : ss.length = n := by have := h.1; simpa using this
  refine ⟨hl, fun k s hs => ?_⟩
  have hk : k < ss.length := (List.getElem?_eq_some_iff.1 hs).1
  obtain ⟨g, cap, hv, _, _⟩ := h.form (by omega)
  injection hv with hA
  subst hA
  refine ⟨g, 0, rfl, ?_⟩
  have := h.cells (g := g) rfl k (.string ⟨s.toArray⟩) (by simp [hs])
  rw [← this]
  by_cases h0 : k = 0
  · subst h0; rfl
  · simp [Addr.add, h0]
end

theorem mk_index (l : List UInt8) (i : Nat) (h : i < (ByteArray.mk l.toArray).size) : (ByteArray.mk l.toArray)[i] = l[i]'(by simpa [ByteArray.size] using h) := rfl
theorem bne_of {x y : Int} (h : x ≠ y) : (x != y) = true := by simpa using h
theorem bne_not {x y : Int} (h : x = y) : (x != y) = false := by simpa using h
theorem beq_of {x y : Int} (h : x = y) : (x == y) = true := by simpa using h
theorem beq_not {x y : Int} (h : x ≠ y) : (x == y) = false := by simpa using h
theorem byte_ne {c : UInt8} (h : ¬ c = 0) : ((c.toNat : Int) != 0) = true := bne_of fun e => h (UInt8.toNat_inj.1 (by simpa using e))

theorem ret2 {a b c d : Value} (h : a = c) (k : b = d) : Ending.returned (.tuple #[a, b]) = .returned (.tuple #[c, d]) := by rw [h, k]
theorem ret3 {a b c d e f : Value} (h : a = d) (k : b = e) (l : c = f) : Ending.returned (.tuple #[a, b, c]) = .returned (.tuple #[d, e, f]) := by rw [h, k, l]
theorem strEq {a b : List UInt8} (h : a = b) : Value.string ⟨a.toArray⟩ = .string ⟨b.toArray⟩ := by rw [h]
theorem retStr {a b : List UInt8} (h : a = b) : Ending.returned (.string ⟨a.toArray⟩) = .returned (.string ⟨b.toArray⟩) := by rw [h]
theorem retBool {a b : Bool} (h : a = b) : Ending.returned (.bool a) = .returned (.bool b) := by rw [h]
theorem retInt {k : IntKind} {a b : Int} (h : a = b) : Ending.returned (.int k a) = .returned (.int k b) := by rw [h]
theorem ofInt_i64 (a : Nat) (ha : a < 9223372036854775808) : (BitVec.ofInt 64 (a : Int)).toNat = a := by
  rw [BitVec.ofInt_natCast, BitVec.toNat_ofNat]; exact Nat.mod_eq_of_lt (by omega)
theorem i64_or_nat (a b : Nat) (ha : a < 9223372036854775808) (hb : b < 9223372036854775808) : bits .or .i64 (a : Int) (b : Int) = ((a ||| b : Nat) : Int) := by
  have hx : a ||| b < 2 ^ 63 := Nat.or_lt_two_pow (by omega) (by omega)
  show IntKind.i64.wrap ((BitVec.ofInt 64 (a : Int) ||| BitVec.ofInt 64 (b : Int)).toNat : Int) = _
  rw [BitVec.toNat_or, ofInt_i64 a ha, ofInt_i64 b hb, IntKind.wrap_i64]
  omega
/-- 'int(x)<<8 | int(y)' of two bytes. -/
theorem or_bytes (a b : UInt8) : bits .or .i64 ((a.toNat : Int) * 256) (b.toNat : Int) = 256 * (a.toNat : Int) + b.toNat := by
  have ha := a.toNat_lt
  have hb := b.toNat_lt
  have e : ((a.toNat : Int) * 256) = ((a.toNat * 256 : Nat) : Int) := by omega
  rw [e, i64_or_nat _ _ (by omega) (by omega)]
  have := Nat.two_pow_add_eq_or_of_lt (i := 8) (b := b.toNat) (by omega) a.toNat
  rw [show a.toNat * 256 = 2 ^ 8 * a.toNat from by omega, ← this]
  omega

/-- 'string([]byte{a, b, c, d})'. -/
theorem run_bytes4 {P : Program} (w : World) (src dst e : TypeId) (hs : P.underlying src = some (.slice e)) (he : P.underlying e = some (.int .u8)) (hd : P.underlying dst = some .string)
    (a b c d : Int) (ha : 0 ≤ a ∧ a ≤ 255) (hb : 0 ≤ b ∧ b ≤ 255) (hc : 0 ≤ c ∧ c ≤ 255) (hdd : 0 ≤ d ∧ d ≤ 255) :
    (convert src dst (.slice (some ⟨w.heap.size, 0, none⟩) 4 4)).run P (w.alloc (.cells #[.int .u8 a, .int .u8 b, .int .u8 c, .int .u8 d] e)) =
      .ok (.string ⟨#[UInt8.ofNat a.toNat, UInt8.ofNat b.toNat, UInt8.ofNat c.toNat, UInt8.ofNat d.toNat]⟩) (w.alloc (.cells #[.int .u8 a, .int .u8 b, .int .u8 c, .int .u8 d] e)) := by
  have back : ∀ x : Int, 0 ≤ x ∧ x ≤ 255 → ((UInt8.ofNat x.toNat).toNat : Int) = x := fun x hx => by
    rw [UInt8.toNat_ofNat']
    omega
  refine run_convert_bytes_back _ src dst e _ 4 [UInt8.ofNat a.toNat, UInt8.ofNat b.toNat, UInt8.ofNat c.toNat, UInt8.ofNat d.toNat] hs he hd ?_
  intro j hj
  have e0 : ∀ j, (w.alloc (.cells #[.int .u8 a, .int .u8 b, .int .u8 c, .int .u8 d] e)).cell? ⟨w.heap.size, j, none⟩ = (#[Value.int .u8 a, .int .u8 b, .int .u8 c, .int .u8 d])[j]? := fun j => World.cell?_alloc_mark w _ e (0, 0) j
  match j, hj with
  | 0, _ => rw [show ((⟨w.heap.size, 0, none⟩ : Addr).add 0) = ⟨w.heap.size, 0, none⟩ from rfl, e0 0]; simp only [List.getElem_cons_zero, back a ha]; rfl
  | 1, _ => rw [show ((⟨w.heap.size, 0, none⟩ : Addr).add 1) = ⟨w.heap.size, 1, none⟩ from rfl, e0 1]; simp only [List.getElem_cons_succ, List.getElem_cons_zero, back b hb]; rfl
  | 2, _ => rw [show ((⟨w.heap.size, 0, none⟩ : Addr).add 2) = ⟨w.heap.size, 2, none⟩ from rfl, e0 2]; simp only [List.getElem_cons_succ, List.getElem_cons_zero, back c hc]; rfl
  | 3, _ => rw [show ((⟨w.heap.size, 0, none⟩ : Addr).add 3) = ⟨w.heap.size, 3, none⟩ from rfl, e0 3]; simp only [List.getElem_cons_succ, List.getElem_cons_zero, back d hdd]; rfl

theorem StrsAt.lit1 (w : World) (e : TypeId) (s : List UInt8) : StrsAt (w.alloc (.cells #[.string ⟨s.toArray⟩] e)) (some ⟨w.heap.size, 0, none⟩) 1 [s] := by
  refine ⟨rfl, fun k s' hk => ?_⟩
  match k, hk with
  | 0, hk =>
    simp only [List.getElem?_cons_zero, Option.some.injEq] at hk
    subst hk
    exact ⟨_, _, rfl, World.cell?_alloc_mark w _ e (0, 0) 0⟩
theorem StrsAt.lit2 (w : World) (e : TypeId) (s t : List UInt8) : StrsAt (w.alloc (.cells #[.string ⟨s.toArray⟩, .string ⟨t.toArray⟩] e)) (some ⟨w.heap.size, 0, none⟩) 2 [s, t] := by
  refine ⟨rfl, fun k s' hk => ?_⟩
  match k, hk with
  | 0, hk =>
    simp only [List.getElem?_cons_zero, Option.some.injEq] at hk
    subst hk
    exact ⟨_, _, rfl, World.cell?_alloc_mark w _ e (0, 0) 0⟩
  | 1, hk =>
    simp only [List.getElem?_cons_succ, List.getElem?_cons_zero, Option.some.injEq] at hk
    subst hk
    exact ⟨_, _, rfl, World.cell?_alloc_mark w _ e (0, 0) 1⟩

/-- The slice value v is nil, or a row of the call's own (in a block from B on), and its elements are the strings 'ss'. -/
def OwnS (w : World) (B : Nat) (e : TypeId) (v : Value) (ss : List (List UInt8)) : Prop := w.ownsRow B e 1 v ss.length (ss.map fun s => .string ⟨s.toArray⟩)

section
variable {w w' : World} {B : Nat} {e : TypeId} {v : Value} {ss : List (List UInt8)}
theorem OwnS.nil (w : World) (B : Nat) (e : TypeId) : OwnS w B e (.slice none 0 0) [] := World.ownsRow_nil w B e 1
theorem OwnS.alloc (h : OwnS w B e v ss) (o : Obj) : OwnS (w.alloc o) B e v ss := World.ownsRow.alloc h o
theorem OwnS.drewN (h : OwnS w B e v ss) (k : Nat) : OwnS (w.drewN k) B e v ss := h
theorem OwnS.drew (h : OwnS w B e v ss) : OwnS w.drew B e v ss := h
theorem OwnS.below (h : OwnS w B e v ss) (hb : Below w.heap.size w w') : OwnS w' B e v ss :=
  World.ownsRow.kept (row := none) h ⟨hb.os, hb.tape, hb.output, hb.size, fun k hk _ => hb.block k hk⟩ (by cases v.ownBlock <;> simp)
theorem OwnS.kept {row : Option Nat} (h : OwnS w B e v ss) (hg : w.grownBy w' row) (hne : v.ownBlock = none ∨ v.ownBlock ≠ row) : OwnS w' B e v ss := World.ownsRow.kept h hg hne
theorem OwnS.lt (h : OwnS w B e v ss) : ∀ k, v.ownBlock = some k → B ≤ k ∧ k < w.heap.size := World.ownsRow.lt h
theorem OwnS.strs (h : OwnS w B e v ss) : ∃ A n c, v = .slice A n c ∧ StrsAt w A n ss ∧ n ≤ maxLen ∧ n = ss.length := by
  rcases h.2 with ⟨rfl, h0⟩ | ⟨g, cap, cur, rfl, _, _, h1, h2, _⟩
  · have : ss = [] := List.eq_nil_of_length_eq_zero h0
    subst this
    exact ⟨none, 0, 0, rfl, StrsAt.nil, Nat.zero_le _, rfl⟩
  · exact ⟨_, _, _, rfl, StrsAt.of_own h, Nat.le_trans h1 h2, rfl⟩

theorem wpList_append_str {P : Program} {w : World} {ops : Array Oper} {rest : List Oper} {o : Oper} {a : Act} {Q : Exit → Act → World → Prop} (hgd : o.guard = none) (s x : Operand) (t : TypeId)
    (ho : o.op = .call { callee := .builtin .append, args := #[s, x], argTypes := #[t, t] })
    (base : Nat) (e : TypeId) (i : TypeInfo) (z : Value) (ht : P.underlying t = some (.slice e)) (hi : P.info? e = some i) (hz : i.zero = some z)
    (hsize : i.size = 1) (hby : i.bytes = 16) (hzs : z.cells.size = 1)
    (v : Value) (ss : List (List UInt8)) (hs : a.eval s = v) (hown : OwnS w base e v ss) (r : List UInt8) (ad : Addr) (c : Nat) (hx : a.eval x = .slice (some ad) 1 c) (hc : w.cell? ad = some (.string ⟨r.toArray⟩))
    (hlen : ss.length ≤ 1000000) (hbase : base ≤ w.heap.size)
    (h : ∀ v' w', OwnS w' base e v' (ss ++ [r]) → Below base w w' → w.grownBy w' v.ownBlock → (v'.ownBlock = v.ownBlock ∨ v'.ownBlock = some w.heap.size) → wpList P ops Q rest (a.put o.dst v') w') :
    wpList P ops Q (o :: rest) a w := by
  refine wpList_append_own_at (P := P) w hgd s x t ho base e i z 1 16 ht hi hz hsize hby hzs (by omega) v ss.length _ hs hown ad 1 c [.string ⟨r.toArray⟩] hx rfl ?_ ?_ (by unfold maxLen; omega) (by omega) hbase ?_
  · intro j u hj
    match j, hj with
    | 0, hj =>
      simp at hj
      subst hj
      exact hc
  · intro u hu
    simp at hu
    subst hu
    rfl
  · intro v' w' h1 h2 _ h4
    refine h v' w' ?_ ((Below.refl _ _).grown h2 hbase (fun k hk => (hown.lt k hk).1)) h2 h4
    unfold OwnS
    simpa using h1
end

theorem wpList_append_strs {P : Program} {w : World} {ops : Array Oper} {rest : List Oper} {o : Oper} {a : Act} {Q : Exit → Act → World → Prop} (hgd : o.guard = none) (s x : Operand) (t : TypeId)
    (ho : o.op = .call { callee := .builtin .append, args := #[s, x], argTypes := #[t, t] })
    (base : Nat) (e : TypeId) (i : TypeInfo) (z : Value) (ht : P.underlying t = some (.slice e)) (hi : P.info? e = some i) (hz : i.zero = some z)
    (hsize : i.size = 1) (hby : i.bytes = 16) (hzs : z.cells.size = 1)
    (v : Value) (ss : List (List UInt8)) (hs : a.eval s = v) (hown : OwnS w base e v ss) (tt : List (List UInt8)) (b off n c : Nat) (hx : a.eval x = .slice (some ⟨b, off, none⟩) n c) (hr : StrsAt w (some ⟨b, off, none⟩) n tt)
    (hlen : ss.length + n ≤ 1000000) (hbase : base ≤ w.heap.size)
    (h : ∀ v' w', OwnS w' base e v' (ss ++ tt) → Below base w w' → w.grownBy w' v.ownBlock → (v'.ownBlock = v.ownBlock ∨ v'.ownBlock = some w.heap.size) → wpList P ops Q rest (a.put o.dst v') w') :
    wpList P ops Q (o :: rest) a w := by
  refine wpList_append_own_at (P := P) w hgd s x t ho base e i z 1 16 ht hi hz hsize hby hzs (by omega) v ss.length _ hs hown ⟨b, off, none⟩ n c (tt.map fun s => .string ⟨s.toArray⟩) hx (by simpa using hr.1) ?_ ?_ (by unfold maxLen; omega) (by omega) hbase ?_
  · intro j u hj
    rw [List.getElem?_map] at hj
    obtain ⟨r, hr1, rfl⟩ := Option.map_eq_some_iff.1 hj
    obtain ⟨b', off', he, hc⟩ := hr.2 j r hr1
    injection he with he
    injection he with he1 he2
    subst he1 he2
    rw [Addr.add_lit]
    exact hc
  · intro u hu
    obtain ⟨r, _, rfl⟩ := List.mem_map.1 hu
    rfl
  · intro v' w' h1 h2 _ h4
    refine h v' w' ?_ ((Below.refl _ _).grown h2 hbase (fun k hk => (hown.lt k hk).1)) h2 h4
    unfold OwnS
    rw [List.length_append, List.map_append, hr.1]
    exact h1

/-- Block g is just the cells cs of element type t, none of them frozen. -/
def Blk (w : World) (g : Nat) (t : TypeId) (cs : Array Value) : Prop := w.heap[g]? = some (.cells cs t (0, 0))
section
variable {w w' : World} {g : Nat} {t : TypeId} {cs : Array Value}
theorem Blk.lt (h : Blk w g t cs) : g < w.heap.size := (Array.getElem?_eq_some_iff.1 h).1
theorem Blk.cell (h : Blk w g t cs) (i : Nat) : w.cell? ⟨g, i, none⟩ = cs[i]? := by
  unfold Blk at h
  simp [World.cell?, h]
theorem Blk.frozen (h : Blk w g t cs) (i : Nat) : w.frozen? ⟨g, i, none⟩ = false := by
  unfold Blk at h
  simp [World.frozen?, h]
theorem Blk.new (w : World) (t : TypeId) (cs : Array Value) : Blk (w.alloc (.cells cs t)) w.heap.size t cs := heap_alloc_new w _
theorem Blk.drewN (h : Blk w g t cs) (n : Nat) : Blk (w.drewN n) g t cs := h
theorem Blk.drew (h : Blk w g t cs) : Blk w.drew g t cs := h
theorem Blk.alloc (h : Blk w g t cs) (o : Obj) : Blk (w.alloc o) g t cs := (Below.heap_alloc w o g h.lt).trans h
theorem Blk.put (h : Blk w g t cs) (i : Nat) (u : Value) : Blk (w.setCell ⟨g, i, none⟩ u) g t (cs.setIfInBounds i u) := by
  unfold Blk at h ⊢
  simp [World.setCell, Array.getElem?_modify, h]
theorem Blk.far (h : Blk w g t cs) {p : Addr} (hp : g ≠ p.block) (u : Value) : Blk (w.setCell p u) g t cs := (Below.heap_setCell w p u g hp).trans h
theorem Blk.below (h : Blk w g t cs) (hb : Below w.heap.size w w') : Blk w' g t cs := (hb.block g h.lt).trans h
theorem Blk.grown {row : Option Nat} (h : Blk w g t cs) (hb : w.grownBy w' row) (hg : some g ≠ row) : Blk w' g t cs := (hb.block g h.lt hg).trans h
theorem Blk.ne {g' : Nat} {t' : TypeId} {cs' : Array Value} (h : Blk w g t cs) (h' : Blk w g' t' cs') (hne : t ≠ t') : g ≠ g' := by
  rintro rfl
  unfold Blk at h h'
  rw [h] at h'
  injection h' with h'
  injection h' with _ ht
  exact hne ht
theorem OwnS.ne_blk {B : Nat} {e : TypeId} {v : Value} {ss : List (List UInt8)} (h : OwnS w B e v ss) (hg : Blk w g t cs) (hne : e ≠ t) : v.ownBlock ≠ some g := by
  rcases h.2 with ⟨rfl, _⟩ | ⟨g', cap, cur, rfl, _, hh, _⟩
  · simp [Value.ownBlock]
  · intro he
    have : g' = g := by simpa [Value.ownBlock] using he
    subst this
    exact Blk.ne (t := e) hh hg hne rfl
theorem OwnS.setCell {B : Nat} {e : TypeId} {v : Value} {ss : List (List UInt8)} (h : OwnS w B e v ss) {p : Addr} (hp : v.ownBlock ≠ some p.block) (u : Value) : OwnS (w.setCell p u) B e v ss := by
  refine ⟨h.1, ?_⟩
  rcases h.2 with h1 | ⟨g, cap, cur, rfl, a2, a3, a4⟩
  · exact .inl h1
  · refine .inr ⟨g, cap, cur, rfl, a2, ?_, a4⟩
    rw [Below.heap_setCell]
    · exact a3
    · intro e
      exact hp (by simp [Value.ownBlock, e])
end

/-- The slice '.slice A n c' of elements of 'size' cells reads as the cells 'xs'. -/
def CellsAt (w : World) (A : Option Addr) (n size : Nat) (xs : List Value) : Prop :=
  xs.length = n * size ∧ ∀ j u, xs[j]? = some u → ∃ b off, A = some ⟨b, off, none⟩ ∧ w.cell? ⟨b, off + j, none⟩ = some u
theorem StrsAt.cells {w : World} {A : Option Addr} {n : Nat} {ss : List (List UInt8)} (h : StrsAt w A n ss) : CellsAt w A n 1 (ss.map fun s => .string ⟨s.toArray⟩) := by
  refine ⟨by simpa using h.1, fun j u hj => ?_⟩
  rw [List.getElem?_map] at hj
  obtain ⟨s, hs, rfl⟩ := Option.map_eq_some_iff.1 hj
  exact h.2 j s hs
theorem CellsAt.below {w w' : World} {A : Option Addr} {n size : Nat} {xs : List Value} (h : CellsAt w A n size xs) (hb : Below w.heap.size w w') : CellsAt w' A n size xs :=
  ⟨h.1, fun j u hj => by
    obtain ⟨b, off, h1, h2⟩ := h.2 j u hj
    exact ⟨b, off, h1, by rw [hb.cell (p := ⟨b, off + j, none⟩) (World.block_lt_of_cell? w _ h2)]; exact h2⟩⟩
theorem strs_oneCell (ss : List (List UInt8)) : ∀ u ∈ ss.map (fun s => Value.string ⟨s.toArray⟩), u.oneCell' = true := by
  intro u hu
  obtain ⟨s, _, rfl⟩ := List.mem_map.1 hu
  rfl

section
variable {P : Program} (w : World)
/-- 'append([]T{}, xs...)': a new row, or the empty one again. -/
theorem run_append_empty (t ty e : TypeId) (i : TypeInfo) (z : Value) (size bytes : Nat) (ht : P.underlying t = some (.slice e)) (hi : P.info? e = some i) (hz : i.zero = some z)
    (hsize : i.size = size) (hby : i.bytes = bytes) (hzs : z.cells.size = size) (hsz : 0 < size) (g base : Nat) (hgb : base ≤ g) (hg : w.heap[g]? = some (.cells #[] e (0, 0)))
    (A : Option Addr) (m c : Nat) (news : List Value) (hr : CellsAt w A m size news) (h1 : ∀ u ∈ news, u.oneCell' = true) (h63 : m ≤ maxLen) (hbytes : m * bytes ≤ 140737488355328) :
    ∃ v' w', (Builtin.append_ #[t, t] ty #[.slice (some ⟨g, 0, none⟩) 0 0, .slice A m c]).run P w = .ok v' w' ∧ w'.ownsRow base e size v' m news ∧ Below w.heap.size w w' := by
  have hlt : g < w.heap.size := (Array.getElem?_eq_some_iff.1 hg).1
  rcases Nat.eq_zero_or_pos m with h0 | h0
  · subst h0
    have hn : news = [] := List.eq_nil_of_length_eq_zero (by simpa using hr.1)
    subst hn
    refine ⟨.slice (some ⟨g, 0, none⟩) 0 0, w, ?_, ⟨by simp, .inr ⟨g, 0, #[], rfl, hgb, hg, Nat.le_refl _, Nat.zero_le _, by simp, by simp⟩⟩, Below.refl _ _⟩
    rcases A with _ | ad
    · simp [Builtin.append_, run_underlying ht, sizeOf, typeInfo, hi, Builtin.lenOf, Builtin.firstCells, storeCells]
    · have := run_append_room_cells (P := P) w t ty e i ht hi g 0 0 0 ad 0 c [] (by simp) (by simp) (by simp) (by omega) (by simp) (by simp)
      simpa [World.setCells] using this
  · have hpos : 0 < news.length := by rw [hr.1]; exact Nat.mul_pos h0 hsz
    obtain ⟨b, off, rfl, _⟩ := hr.2 0 news[0] (List.getElem?_eq_getElem hpos)
    obtain ⟨v', w', h2, h3, h4⟩ := run_append_arg_grows (P := P) w t ty e i z size bytes ht hi hz hsize hby hzs hsz ⟨g, 0, none⟩ 0 0 [] (by simp) (by simp) ⟨b, off, none⟩ m c news hr.1 (fun j u hj => by
      obtain ⟨b', off', he, hc⟩ := hr.2 j u hj
      injection he with he
      injection he with he1 he2
      subst he1 he2
      rw [Addr.add_lit]
      exact hc) (by omega) (by omega) (by simpa using hbytes)
    refine ⟨v', w', h2, ?_, ⟨h4.os, h4.tape, h4.output, h4.size, fun k hk => h4.block k hk (by simp)⟩⟩
    simp only [Nat.zero_add, List.nil_append] at h3
    refine ⟨h3.1, ?_⟩
    rcases h3.2 with h5 | ⟨g', cap, cur, a1, a2, a3⟩
    · exact .inl h5
    · exact .inr ⟨g', cap, cur, a1, by omega, a3⟩

theorem wp_append_empty {o : Oper} {a : Act} {K : Act → World → Prop} {Q : Exit → Act → World → Prop} (s x : Operand) (t : TypeId)
    (ho : o.op = .call { callee := .builtin .append, args := #[s, x], argTypes := #[t, t] })
    (e : TypeId) (i : TypeInfo) (z : Value) (size bytes : Nat) (ht : P.underlying t = some (.slice e)) (hi : P.info? e = some i) (hz : i.zero = some z)
    (hsize : i.size = size) (hby : i.bytes = bytes) (hzs : z.cells.size = size) (hsz : 0 < size) (g base : Nat) (hs : a.eval s = .slice (some ⟨g, 0, none⟩) 0 0) (hgb : base ≤ g) (hg : w.heap[g]? = some (.cells #[] e (0, 0)))
    (A : Option Addr) (m c : Nat) (news : List Value) (hx : a.eval x = .slice A m c) (hr : CellsAt w A m size news) (h1 : ∀ u ∈ news, u.oneCell' = true) (h63 : m ≤ maxLen) (hbytes : m * bytes ≤ 140737488355328)
    (h : ∀ v' w', w'.ownsRow base e size v' m news → Below w.heap.size w w' → K (a.put o.dst v') w') : o.wp P a w K Q := by
  obtain ⟨v', w', hr, h2, h3⟩ := run_append_empty (P := P) w t o.type e i z size bytes ht hi hz hsize hby hzs hsz g base hgb hg A m c news hr h1 h63 hbytes
  unfold Oper.wp execOp
  simp only [ho, resolve, invoke, builtin, Sem.run_bind, Sem.run_pure, Result.andThen_ok, List.map_toArray, List.map_cons, List.map_nil, hs, hx, hr]
  exact h v' w' h2 h3
end
end Go.Proofs.YtjklhiifjnmedaaGreatDoor
