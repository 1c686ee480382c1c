/- A manager whose queue, or whose held row, has been written anew; a row of numbers of the call's own. Plain theorems. -/
import Derived.Test.YtjklhiifjnmedaaGreatDoorLkDelF
namespace Go.Proofs.YtjklhiifjnmedaaGreatDoor
open Go.RowKit P16 P46

theorem OwnL.setCell {w : World} {B : Nat} {e : TypeId} {v : Value} {ls : List Lock} (h : OwnL w B e v ls) {p : Addr} (hp : v.ownBlock ≠ some p.block) (u : Value) : OwnL (w.setCell p u) B e v ls := by
  refine ⟨h.1, ?_⟩
  rcases h.2 with h1 | ⟨g, cap, cur, rfl, a2, a3, a4⟩
  · exact .inl h1
  · refine .inr ⟨g, cap, cur, rfl, a2, ?_, a4⟩
    rw [Below.heap_setCell]
    · exact a3
    · intro e
      exact hp (by simp [Value.ownBlock, e])
section
variable {w w1 : World} {B p : Nat} {h q h' q' : List Lock} {vh vq v : Value}
theorem Moved.put (m : Mgr w B p h q vh vq) {row : Option Nat} (hg : w.grownBy w1 row) (hr : ∀ k, row = some k → Foot w p k ∧ k ≠ p) {a b : Value} (hb : Blk w1 p tM #[a, b]) (i : Nat)
    (ha : ∀ k, a.ownBlock = some k ∨ b.ownBlock = some k → Foot w p k ∨ w.heap.size ≤ k) (hv : ∀ k, v.ownBlock = some k → Foot w p k ∨ w.heap.size ≤ k) : Moved p w (w1.setCell ⟨p, i, none⟩ v) := by
  refine ⟨hg.os, hg.tape, hg.output, by simpa using hg.size, fun k hk hf => ?_, fun k hk => ?_⟩
  · rw [Below.heap_setCell _ _ _ _ (fun e => hf (.inl e))]
    exact hg.block k hk (fun e => hf (hr k e.symm).1)
  · rcases hk with rfl | ⟨a2, b2, hb2, hk⟩
    · exact .inl (.inl rfl)
    · have hbp := hb.put i v
      have := Blk.inj hb2 hbp
      match i, this with
      | 0, this =>
        simp at this
        obtain ⟨rfl, rfl⟩ := this
        rcases hk with hk | hk
        · exact hv k hk
        · exact ha k (.inr hk)
      | 1, this =>
        simp at this
        obtain ⟨rfl, rfl⟩ := this
        rcases hk with hk | hk
        · exact ha k (.inl hk)
        · exact hv k hk
      | i + 2, this =>
        simp at this
        obtain ⟨rfl, rfl⟩ := this
        exact ha k hk
theorem Mgr.put1 (m : Mgr w B p h q vh vq) (hg : w.grownBy w1 vq.ownBlock) (ho : OwnL w1 B tL v q') (hv : v.ownBlock = none ∨ v.ownBlock = vq.ownBlock ∨ ∃ k, v.ownBlock = some k ∧ w.heap.size ≤ k) :
    Mgr (w1.setCell ⟨p, 1, none⟩ v) B p h q' vh v ∧ Moved p w (w1.setCell ⟨p, 1, none⟩ v) := by
  have hp := m.box.lt
  obtain ⟨n1, n2⟩ := m.box_ne
  have hb1 : Blk w1 p tM #[vh, vq] := m.box.grown hg (fun e => n2 e.symm)
  have hvp : v.ownBlock ≠ some p := by
    rcases hv with e | e | ⟨k, e, hk⟩
    · rw [e]; simp
    · rw [e]; exact n2
    · rw [e]
      simp
      omega
  refine ⟨⟨by simpa using hb1.put 1 v, m.base, (m.held.kept hg m.apart).setCell n1 v, ho.setCell hvp v, ?_⟩, Moved.put m hg (fun k e => ⟨.inr ⟨vh, vq, m.box, .inr e⟩, fun e2 => n2 (e2 ▸ e)⟩) hb1 1 ?_ ?_⟩
  · rcases hv with e | e | ⟨k, e, hk⟩
    · by_cases h0 : vh.ownBlock = none
      · exact .inl h0
      · exact .inr (by rw [e]; exact h0)
    · rw [e]; exact m.apart
    · rcases h0 : vh.ownBlock with _ | y
      · exact .inl rfl
      · have := (m.held.lt y h0).2
        exact .inr (by rw [e]; simp; omega)
  · intro k hk
    exact .inl (.inr ⟨vh, vq, m.box, hk⟩)
  · intro k hk
    rcases hv with e | e | ⟨k2, e, hk2⟩
    · rw [e] at hk; cases hk
    · rw [e] at hk
      exact .inl (.inr ⟨vh, vq, m.box, .inr hk⟩)
    · rw [e] at hk
      cases hk
      exact .inr hk2
theorem Mgr.put0 (m : Mgr w B p h q vh vq) (hg : w.grownBy w1 vh.ownBlock) (ho : OwnL w1 B tL v h') (hv : v.ownBlock = none ∨ v.ownBlock = vh.ownBlock ∨ ∃ k, v.ownBlock = some k ∧ w.heap.size ≤ k) :
    Mgr (w1.setCell ⟨p, 0, none⟩ v) B p h' q v vq ∧ Moved p w (w1.setCell ⟨p, 0, none⟩ v) := by
  have hp := m.box.lt
  obtain ⟨n1, n2⟩ := m.box_ne
  have hb1 : Blk w1 p tM #[vh, vq] := m.box.grown hg (fun e => n1 e.symm)
  have hap : vq.ownBlock = none ∨ vq.ownBlock ≠ vh.ownBlock := by
    rcases m.apart with e | e
    · by_cases h0 : vq.ownBlock = none
      · exact .inl h0
      · exact .inr (by rw [e]; exact h0)
    · exact .inr (Ne.symm e)
  have hvp : v.ownBlock ≠ some p := by
    rcases hv with e | e | ⟨k, e, hk⟩
    · rw [e]; simp
    · rw [e]; exact n1
    · rw [e]
      simp
      omega
  refine ⟨⟨by simpa using hb1.put 0 v, m.base, ho.setCell hvp v, (m.queue.kept hg hap).setCell n2 v, ?_⟩, Moved.put m hg (fun k e => ⟨.inr ⟨vh, vq, m.box, .inl e⟩, fun e2 => n1 (e2 ▸ e)⟩) hb1 0 ?_ ?_⟩
  · rcases hv with e | e | ⟨k, e, hk⟩
    · exact .inl e
    · rw [e]; exact m.apart
    · rcases h0 : vq.ownBlock with _ | y
      · exact .inr (by rw [e]; simp)
      · have := (m.queue.lt y h0).2
        exact .inr (by rw [e]; simp; omega)
  · intro k hk
    exact .inl (.inr ⟨vh, vq, m.box, hk⟩)
  · intro k hk
    rcases hv with e | e | ⟨k2, e, hk2⟩
    · rw [e] at hk; cases hk
    · rw [e] at hk
      exact .inl (.inr ⟨vh, vq, m.box, .inl hk⟩)
    · rw [e] at hk
      cases hk
      exact .inr hk2
end
/-- 'm.held = append(m.held, l)'. -/
theorem Mgr.push0 {w8 w9 : World} {B p : Nat} {h q : List Lock} {vh vq : Value} (m : Mgr w8 B p h q vh vq) {l : Lock} {o : Obj} {gg cap : Nat} (hg : ((w8.alloc o).drew).grownBy w9 vh.ownBlock)
    (hown : w9.ownsRow B tL 6 (.slice (some ⟨gg, 0, none⟩) (h.length + 1) cap) (h.length + 1) (lcs h ++ lc l)) (hat : vh.ownBlock = some gg ∨ gg = w8.heap.size + 1) :
    Mgr (w9.setCell ⟨p, 0, none⟩ (.slice (some ⟨gg, 0, none⟩) (h.length + 1) cap)) B p (h ++ [l]) q (.slice (some ⟨gg, 0, none⟩) (h.length + 1) cap) vq ∧ Moved p w8 (w9.setCell ⟨p, 0, none⟩ (.slice (some ⟨gg, 0, none⟩) (h.length + 1) cap)) := by
  have hb : Below w8.heap.size w8 (w8.alloc o).drew := ((Below.refl _ w8).alloc (Nat.le_refl _) o).drew
  have ho : OwnL w9 B tL (.slice (some ⟨gg, 0, none⟩) (h.length + 1) cap) (h ++ [l]) := by
    unfold OwnL
    rw [List.length_append, lcs_append]
    simpa [lcs] using hown
  obtain ⟨h1, h2⟩ := (m.below hb).put0 hg ho (by
    rcases hat with e | e
    · exact .inr (.inl e.symm)
    · exact .inr (.inr ⟨gg, rfl, by rw [e]; show (w8.alloc o).heap.size ≤ _; simp⟩))
  exact ⟨h1, (Moved.of_below hb m.box.lt).trans h2⟩
/-- 'm.queue = append(m.queue, l)'. -/
theorem Mgr.push1 {w8 w9 : World} {B p : Nat} {h q : List Lock} {vh vq : Value} (m : Mgr w8 B p h q vh vq) {l : Lock} {o : Obj} {gg cap : Nat} (hg : ((w8.alloc o).drew).grownBy w9 vq.ownBlock)
    (hown : w9.ownsRow B tL 6 (.slice (some ⟨gg, 0, none⟩) (q.length + 1) cap) (q.length + 1) (lcs q ++ lc l)) (hat : vq.ownBlock = some gg ∨ gg = w8.heap.size + 1) :
    Mgr (w9.setCell ⟨p, 1, none⟩ (.slice (some ⟨gg, 0, none⟩) (q.length + 1) cap)) B p h (q ++ [l]) vh (.slice (some ⟨gg, 0, none⟩) (q.length + 1) cap) ∧ Moved p w8 (w9.setCell ⟨p, 1, none⟩ (.slice (some ⟨gg, 0, none⟩) (q.length + 1) cap)) := by
  have hb : Below w8.heap.size w8 (w8.alloc o).drew := ((Below.refl _ w8).alloc (Nat.le_refl _) o).drew
  have ho : OwnL w9 B tL (.slice (some ⟨gg, 0, none⟩) (q.length + 1) cap) (q ++ [l]) := by
    unfold OwnL
    rw [List.length_append, lcs_append]
    simpa [lcs] using hown
  obtain ⟨h1, h2⟩ := (m.below hb).put1 hg ho (by
    rcases hat with e | e
    · exact .inr (.inl e.symm)
    · exact .inr (.inr ⟨gg, rfl, by rw [e]; show (w8.alloc o).heap.size ≤ _; simp⟩))
  exact ⟨h1, (Moved.of_below hb m.box.lt).trans h2⟩
/-- A row of numbers of the call's own. -/
def OwnI (w : World) (B : Nat) (v : Value) (xs : List Int) : Prop := w.ownsRow B 3 1 v xs.length (xs.map (Value.int .i64))
section
variable {w w' : World} {B p : Nat} {v : Value} {xs : List Int}
theorem OwnI.nil (w : World) (B : Nat) : OwnI w B (.slice none 0 0) [] := World.ownsRow_nil w B 3 1
theorem OwnI.alloc (h : OwnI w B v xs) (o : Obj) : OwnI (w.alloc o) B v xs := World.ownsRow.alloc h o
theorem OwnI.drewN (h : OwnI w B v xs) (k : Nat) : OwnI (w.drewN k) B v xs := h
theorem OwnI.below (h : OwnI w B v xs) (hb : Below w.heap.size w w') : OwnI w' B v xs :=
  World.ownsRow.kept (row := none) h ⟨hb.os, hb.tape, hb.output, hb.size, fun k hk _ => hb.block k hk⟩ (by cases v.ownBlock <;> simp)
theorem OwnI.kept {row : Option Nat} (h : OwnI w B v xs) (hg : w.grownBy w' row) (hne : v.ownBlock = none ∨ v.ownBlock ≠ row) : OwnI w' B v xs := World.ownsRow.kept h hg hne
theorem OwnI.lt (h : OwnI w B v xs) : ∀ k, v.ownBlock = some k → B ≤ k ∧ k < w.heap.size := World.ownsRow.lt h
theorem OwnI.moved (h : OwnI w B v xs) (m : Moved p w w') (hf : ∀ k, v.ownBlock = some k → ¬ Foot w p k) : OwnI w' B v xs := by
  refine ⟨h.1, ?_⟩
  rcases h.2 with h1 | ⟨g, cap, cur, rfl, a2, a3, a4⟩
  · exact .inl h1
  · exact .inr ⟨g, cap, cur, rfl, a2, (m.block g (Array.getElem?_eq_some_iff.1 a3).1 (hf g rfl)).trans a3, a4⟩
theorem Moved.out (m : Moved p w w') (hlt : ∀ k, v.ownBlock = some k → k < w.heap.size) (hf : ∀ k, v.ownBlock = some k → ¬ Foot w p k) : ∀ k, v.ownBlock = some k → ¬ Foot w' p k := by
  intro k hk h
  rcases m.foot k h with h | h
  · exact hf k hk h
  · have := hlt k hk
    omega
end
theorem Mgr.far {w w' : World} {B p : Nat} {h q : List Lock} {vh vq : Value} (m : Mgr w B p h q vh vq) {row : Option Nat} (hg : w.grownBy w' row) (hf : ∀ k, row = some k → ¬ Foot w p k) : Mgr w' B p h q vh vq := by
  refine ⟨m.box.grown hg (fun e => hf p e.symm (.inl rfl)), m.base, m.held.kept hg ?_, m.queue.kept hg ?_, m.apart⟩
  · rcases he : vh.ownBlock with _ | y
    · exact .inl rfl
    · exact .inr (fun e => hf y e.symm (.inr ⟨vh, vq, m.box, .inl he⟩))
  · rcases he : vq.ownBlock with _ | y
    · exact .inl rfl
    · exact .inr (fun e => hf y e.symm (.inr ⟨vh, vq, m.box, .inr he⟩))
theorem Moved.grown {w wr w' : World} {B p : Nat} {h q : List Lock} {vh vq : Value} (mv : Moved p w wr) (m : Mgr wr B p h q vh vq) {row : Option Nat} (hg : wr.grownBy w' row) (hr : ∀ k, row = some k → w.heap.size ≤ k ∧ ¬ Foot wr p k) : Moved p w w' := by
  refine ⟨hg.os.trans mv.os, hg.tape.trans mv.tape, hg.output.trans mv.output, Nat.le_trans mv.size hg.size, fun k hk hf => ?_, fun k hk => ?_⟩
  · rw [hg.block k (Nat.lt_of_lt_of_le hk mv.size) (fun e => by have := (hr k e.symm).1; omega), mv.block k hk hf]
  · refine mv.foot k ?_
    have m' := m.far hg (fun k hk => (hr k hk).2)
    exact m.foot.2 (m'.foot.1 hk)
theorem infoI : (Tryz.prog.info? 3).map (fun i => (i.zero, i.size, i.bytes)) = some (some (.int .i64 0), 1, 8) := by kernel_rfl
/-- 'append(s, n)', s a row of the call's own. -/
theorem wpList_append_int {P : Program} {w : World} {ops : Array Oper} {rest : List Oper} {o : Oper} {a : Act} {Q : Exit → Act → World → Prop} (hgd : o.guard = none) (s x : Operand) (t : TypeId)
    (ho : o.op = .call { callee := .builtin .append, args := #[s, x], argTypes := #[t, t] })
    (base : Nat) (i : TypeInfo) (z : Value) (ht : P.underlying t = some (.slice 3)) (hi : P.info? 3 = some i) (hz : i.zero = some z)
    (hsize : i.size = 1) (hby : i.bytes = 8) (hzs : z.cells.size = 1)
    (v : Value) (xs : List Int) (hs : a.eval s = v) (hown : OwnI w base v xs) (n : Int) (b c : Nat) (hx : a.eval x = .slice (some ⟨b, 0, none⟩) 1 c) (hc : w.cell? ⟨b, 0, none⟩ = some (.int .i64 n))
    (hlen : xs.length ≤ 1000000) (hbase : base ≤ w.heap.size)
    (h : ∀ v' w', OwnI w' base v' (xs ++ [n]) → w.grownBy w' v.ownBlock → (v'.ownBlock = v.ownBlock ∨ v'.ownBlock = some w.heap.size) → wpList P ops Q rest (a.put o.dst v') w') :
    wpList P ops Q (o :: rest) a w := by
  refine wpList_append_own_at (P := P) w hgd s x t ho base 3 i z 1 8 ht hi hz hsize hby hzs (by omega) v xs.length _ hs hown ⟨b, 0, none⟩ 1 c [.int .i64 n] hx rfl ?_ ?_ (by unfold maxLen; omega) (by omega) hbase ?_
  · intro j u hj
    match j, hj with
    | 0, hj =>
      simp at hj
      subst hj
      exact hc
  · intro u hu
    simp at hu
    subst hu
    rfl
  · intro v' w' h1 h2 _ h4
    refine h v' w' ?_ h2 h4
    unfold OwnI
    simpa using h1
end Go.Proofs.YtjklhiifjnmedaaGreatDoor
