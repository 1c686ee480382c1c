/- A row of numbers that is cut at its front and appended to; a set of numbers in a map. Plain theorems. -/
import Derived.Test.YtojbddcbnnbklaaDoorClLawF
import Derived.Test.YtojbddcbnnbklaaDoorClRows
import Derived.ArgAppend
namespace Go.Proofs.YtojbddcbnnbklaaDoor
open Go.RowKit P43 Go.Maps

/-- The slice v reads as xs, somewhere in a row of numbers of the call's own. -/
def OffI (w : World) (B : Nat) (v : Value) (xs : List Int) : Prop :=
  (v = .slice none 0 0 ∧ xs = []) ∨ ∃ g o cap cur, v = .slice (some ⟨g, o, none⟩) xs.length cap ∧ B ≤ g ∧ Blk w g 3 cur ∧ xs.length ≤ cap ∧ o + cap ≤ cur.size ∧ cap ≤ maxLen ∧ ∀ j x, xs[j]? = some x → cur[o + j]? = some (.int .i64 x)
section
variable {w w' : World} {B : Nat} {v : Value} {xs : List Int}
theorem OwnI.off (h : OwnI w B v xs) : OffI w B v xs := by
  rcases h.2 with ⟨rfl, h0⟩ | ⟨g, cap, cur, rfl, a2, a3, a4, a5, a6, a7⟩
  · exact .inl ⟨rfl, List.eq_nil_of_length_eq_zero h0⟩
  · refine .inr ⟨g, 0, cap, cur, rfl, a2, a3, a4, by omega, a5, fun j x hj => ?_⟩
    have hl : j < xs.length := (List.getElem?_eq_some_iff.1 hj).1
    have h1 : (cur.toList.take (xs.length * 1))[j]? = (xs.map (Value.int .i64))[j]? := by rw [a7]
    rw [List.getElem?_take_of_lt (by omega), List.getElem?_map, hj, Array.getElem?_toList] at h1
    rw [Nat.zero_add]
    exact h1
theorem OffI.below (h : OffI w B v xs) (hb : Below w.heap.size w w') : OffI w' B v xs := by
  rcases h with h | ⟨g, o, cap, cur, h1, h2, h3, h4⟩
  · exact .inl h
  · exact .inr ⟨g, o, cap, cur, h1, h2, h3.below hb, h4⟩
theorem TT.notBlk {w : World} {B p : Nat} {t : T} {F : Nat → Prop} (m : TT w B p t F) {k : Nat} {cs : Array Value} (hb : Blk w k 3 cs) : ¬ F k := by
  obtain ⟨hs, ws, vh, vw, mT, e, hF⟩ := m
  intro hf
  rcases (hF k).1 hf with hf | ⟨x, hx, rfl⟩
  · rcases mT.foot.1 hf with rfl | h1 | h1
    · exact Blk.ne hb mT.box (by decide) rfl
    · obtain ⟨c2, b2⟩ := mT.held.ownC k h1
      exact Blk.ne hb b2 (by decide) rfl
    · obtain ⟨c2, b2⟩ := mT.wait.ownC k h1
      exact Blk.ne hb b2 (by decide) rfl
  · exact (mT.maps.ns x hx).noBlk hb
theorem OffI.over {B' p : Nat} {t : T} {F F' : Nat → Prop} (h : OffI w B v xs) (m : TT w B' p t F) (c : Chg F F' w w') : OffI w' B v xs := by
  rcases h with h | ⟨g, o, cap, cur, h1, h2, h3, h4⟩
  · exact .inl h
  · exact .inr ⟨g, o, cap, cur, h1, h2, (c.block g h3.lt (m.notBlk h3)).trans h3, h4⟩
theorem OffI.map {P : Program} {kt : TypeId} {b n : Nat} {M : Lit → Option Value} (h : OffI w B v xs) (hm : MapV w P kt b n M) (hg : w.grownBy w' (some b)) : OffI w' B v xs := by
  rcases h with h | ⟨g, o, cap, cur, h1, h2, h3, h4⟩
  · exact .inl h
  · exact .inr ⟨g, o, cap, cur, h1, h2, h3.grown hg (fun e => by cases e; exact hm.noBlk h3), h4⟩
/-- What 'v[1:]' is. -/
theorem OffI.cons {x : Int} (h : OffI w B v (x :: xs)) : ∃ g o cap cur, v = .slice (some ⟨g, o, none⟩) (xs.length + 1) cap ∧ B ≤ g ∧ Blk w g 3 cur ∧ xs.length + 1 ≤ cap ∧ cap ≤ maxLen ∧ w.cell? ⟨g, o, none⟩ = some (.int .i64 x) ∧ (cap ≠ 1 → OffI w B (.slice (some ⟨g, o + 1, none⟩) xs.length (cap - 1)) xs) ∧ (cap = 1 → xs = [] ∧ OffI w B (.slice (some ⟨g, o, none⟩) 0 0) xs) := by
  rcases h with ⟨_, h⟩ | ⟨g, o, cap, cur, h1, h2, h3, h4, h5, h6, h7⟩
  · cases h
  · refine ⟨g, o, cap, cur, h1, h2, h3, h4, h6, ?_, fun hc => .inr ⟨g, o + 1, cap - 1, cur, rfl, h2, h3, ?_, ?_, ?_, fun j y hj => ?_⟩, fun hc => ?_⟩
    · rw [h3.cell]
      exact h7 0 x rfl
    · simp at h4; omega
    · simp at h4; omega
    · omega
    · have := h7 (j + 1) y (by simpa using hj)
      rwa [show o + (j + 1) = o + 1 + j by omega] at this
    · have hx : xs = [] := by
        simp at h4
        exact List.eq_nil_of_length_eq_zero (by omega)
      subst hx
      exact ⟨rfl, .inr ⟨g, o, 0, cur, rfl, h2, h3, Nat.le_refl _, by omega, by omega, by simp⟩⟩
theorem over_old {cs : Array Value} {o : Nat} {vs : List Value} (ho : o ≤ cs.size) {k : Nat} (hk : k < o) : (over cs o vs)[k]? = cs[k]? := by
  unfold over
  rw [List.getElem?_toArray, List.append_assoc, List.getElem?_append_left (by simp; omega), List.getElem?_take_of_lt hk, Array.getElem?_toList]
theorem over_new {cs : Array Value} {o : Nat} {vs : List Value} (ho : o ≤ cs.size) {j : Nat} (hj : j < vs.length) : (over cs o vs)[o + j]? = vs[j]? := by
  unfold over
  have e : (cs.toList.take o).length = o := by simp; omega
  rw [List.getElem?_toArray, List.append_assoc, List.getElem?_append_right (by omega), e, Nat.add_sub_cancel_left, List.getElem?_append_left hj]
end
/-- 'append(s, ms...)', s a row of the call's own that may begin in the middle. -/
theorem run_append_off {P : Program} (w : World) (t ty : TypeId) (i : TypeInfo) (z : Value) (ht : P.underlying t = some (.slice 3)) (hi : P.info? 3 = some i) (hz : i.zero = some z) (hsize : i.size = 1) (hby : i.bytes = 8) (hzs : z.cells.size = 1)
    (B B2 g off cap : Nat) (xs ms : List Int) (hown : OffI w B (.slice (some ⟨g, off, none⟩) xs.length cap) xs) (vm : Value) (hm : OwnI w B2 vm ms) (hlen : xs.length + ms.length ≤ 1000000) (hB : B ≤ w.heap.size) :
    ∃ v' w', (Builtin.append_ #[t, t] ty #[.slice (some ⟨g, off, none⟩) xs.length cap, vm]).run P w = .ok v' w' ∧ OffI w' B v' (xs ++ ms) ∧ w.grownBy w' (some g) := by
  rcases hown with ⟨h, _⟩ | ⟨g', o', cap', cur, h1, h2, h3, h4, h5, h6, h7⟩
  · cases h
  · injection h1 with e1 e2 e3
    injection e1 with e1
    injection e1 with e4 e5
    subst e4 e5 e3
    rcases hm.2 with ⟨rfl, hm0⟩ | ⟨gm, capm, curm, rfl, _, hgm, _, _, _, _⟩
    · have : ms = [] := List.eq_nil_of_length_eq_zero hm0
      subst this
      refine ⟨.slice (some ⟨g, off, none⟩) xs.length cap, w, ?_, .inr ⟨g, off, cap, cur, by simp, h2, h3, by simpa using h4, h5, h6, by simpa using h7⟩, grown_refl _ _⟩
      simp [Builtin.append_, run_underlying ht, sizeOf, typeInfo, hi, Builtin.lenOf, h4, Builtin.firstCells, storeCells]
    · have hnews : ∀ j u, (ms.map (Value.int .i64))[j]? = some u → w.cell? ((⟨gm, 0, none⟩ : Addr).add j) = some u := fun j u hj => World.ownsRow.cells hm (g := gm) rfl j u hj
      by_cases hroom : xs.length + ms.length ≤ cap
      · have hfit : off + xs.length * 1 + (ms.map (Value.int .i64)).length ≤ cur.size := by simp; omega
        refine ⟨_, _, run_append_room_cells (P := P) w t ty 3 i ht hi g off xs.length cap ⟨gm, 0, none⟩ ms.length capm (ms.map (Value.int .i64)) (by rw [hsize]; simp) hnews (fun u hu => by obtain ⟨n, _, rfl⟩ := List.mem_map.1 hu; rfl) hroom (fun j hj => ?_) (fun j hj => h3.frozen _), .inr ⟨g, off, cap, over cur (off + xs.length * 1) (ms.map (Value.int .i64)), by simp, h2, ?_, by simpa using hroom, by rw [over_size hfit]; exact h5, h6, fun j x hj => ?_⟩, ?_⟩
        · rw [h3.cell, hsize, Array.getElem?_eq_getElem (by simp at hj; omega)]
          rfl
        · rw [hsize]
          exact h3.setCells hfit
        · by_cases hjx : j < xs.length
          · rw [List.getElem?_append_left hjx] at hj
            rw [over_old (by omega) (by omega)]
            exact h7 j x hj
          · rw [List.getElem?_append_right (by omega)] at hj
            have hjl : j - xs.length < ms.length := (List.getElem?_eq_some_iff.1 hj).1
            have := over_new (cs := cur) (o := off + xs.length * 1) (vs := ms.map (Value.int .i64)) (by omega) (j := j - xs.length) (by simpa using hjl)
            rw [show off + xs.length * 1 + (j - xs.length) = off + j by omega] at this
            rw [this, List.getElem?_map, hj]
            rfl
        · rw [hsize]
          exact grownBy_setCells (g := g) w _ _
      · obtain ⟨v', w', hr, ho, hg⟩ := run_append_arg_grows (P := P) w t ty 3 i z 1 8 ht hi hz hsize hby hzs (by omega) ⟨g, off, none⟩ xs.length cap (xs.map (Value.int .i64)) (by simp) (fun j u hj => by
          rw [Addr.add_lit, h3.cell]
          rw [List.getElem?_map] at hj
          obtain ⟨x, hx, rfl⟩ := Option.map_eq_some_iff.1 hj
          exact h7 j x hx) ⟨gm, 0, none⟩ ms.length capm (ms.map (Value.int .i64)) (by simp) hnews (by omega) (by unfold maxLen; omega) (by omega)
        refine ⟨v', w', hr, ?_, ⟨hg.os, hg.tape, hg.output, hg.size, fun k hk _ => hg.block k hk (by simp)⟩⟩
        have h8 : OwnI w' B v' (xs ++ ms) := by
          unfold OwnI
          rw [List.length_append, List.map_append]
          exact World.ownsRow.mono ho hB
        exact h8.off
theorem wpList_append_off {P : Program} {w : World} {ops : Array Oper} {rest : List Oper} {o : Oper} {a : Act} {Q : Exit → Act → World → Prop} (hgd : o.guard = none) (s x : Operand) (t : TypeId)
    (ho : o.op = .call { callee := .builtin .append, args := #[s, x], argTypes := #[t, t] })
    (i : TypeInfo) (z : Value) (ht : P.underlying t = some (.slice 3)) (hi : P.info? 3 = some i) (hz : i.zero = some z) (hsize : i.size = 1) (hby : i.bytes = 8) (hzs : z.cells.size = 1)
    (B B2 g off cap : Nat) (xs ms : List Int) (vs : Value) (hs : a.eval s = vs) (hvs : vs = .slice (some ⟨g, off, none⟩) xs.length cap) (hown : OffI w B vs xs) (vm : Value) (hx : a.eval x = vm) (hm : OwnI w B2 vm ms) (hlen : xs.length + ms.length ≤ 1000000) (hB : B ≤ w.heap.size)
    (h : ∀ v' w', OffI w' B v' (xs ++ ms) → w.grownBy w' (some g) → wpList P ops Q rest (a.put o.dst v') w') :
    wpList P ops Q (o :: rest) a w := by
  subst hvs
  refine wpList_plain hgd fun K hK => ?_
  obtain ⟨v', w', hr, h1, h2⟩ := run_append_off (P := P) w t o.type i z ht hi hz hsize hby hzs B B2 g off cap xs ms hown vm hm hlen hB
  unfold Oper.wp execOp
  simp only [ho, resolve, invoke, builtin, Sem.run_bind, Sem.run_pure, Result.andThen_ok, List.map_toArray, List.map_cons, List.map_nil, hs, hx, hr]
  exact hK _ _ (h v' w' h1 h2)
/-- A set of numbers, as a map holds it. -/
def setM (S : Int → Bool) : Lit → Option Value := fun k => match k with
  | .int .i64 x => if S x = true then some (.bool true) else none
  | _ => none
abbrev SV (w : World) (b n : Nat) (S : Int → Bool) : Prop := MapV w Tryd.prog 3 b n (setM S)
theorem setM_isSome (S : Int → Bool) (x : Int) : (setM S (.int .i64 x)).isSome = S x := by
  unfold setM
  cases h : S x <;> simp [h]
theorem setM_none : (fun _ => none : Lit → Option Value) = setM (fun _ => false) := by
  funext k
  unfold setM
  split <;> simp
theorem setM_put (S : Int → Bool) (a : Int) : putM (setM S) (.int .i64 a) (.bool true) = setM (fun x => S x || decide (x = a)) := by
  funext k
  unfold putM
  by_cases e : k = .int .i64 a
  · subst e
    rw [if_pos (WideAt.sameKey_self (by simp [WideAt.IsKeyLit]))]
    simp [setM]
  · rw [if_neg (by rw [sameKey_ne e]; simp)]
    unfold setM
    split
    · rename_i x
      have hx : ¬ x = a := fun h => e (by rw [h])
      simp [hx]
    · rfl
theorem setM_del (S : Int → Bool) (a : Int) : delM (setM S) (.int .i64 a) = setM (fun x => S x && decide (x ≠ a)) := by
  funext k
  unfold delM
  by_cases e : k = .int .i64 a
  · subst e
    rw [if_pos (WideAt.sameKey_self (by simp [WideAt.IsKeyLit]))]
    simp [setM]
  · rw [if_neg (by rw [sameKey_ne e]; simp)]
    unfold setM
    split
    · rename_i x
      have hx : ¬ x = a := fun h => e (by rw [h])
      simp [hx]
    · rfl
theorem setM_look (S : Int → Bool) (x : Int) : (setM S (.int .i64 x)).getD (.bool false) = .bool (S x) := by
  unfold setM
  cases h : S x <;> simp [h]
theorem setM_keys {S : Int → Bool} {l : List Int} (hS : ∀ x, S x = decide (x ∈ l)) (hn : l.Nodup) : (l.map (Lit.int .i64)).Nodup ∧ ∀ k, (setM S k).isSome = true ↔ k ∈ l.map (Lit.int .i64) := by
  refine ⟨List.Pairwise.map _ (fun a b h e => h (by injection e)) hn, fun k => ?_⟩
  constructor
  · intro h
    unfold setM at h
    split at h
    · rename_i x
      rw [hS] at h
      by_cases hx : x ∈ l
      · exact List.mem_map.2 ⟨x, hx, rfl⟩
      · simp [hx] at h
    · cases h
  · intro h
    obtain ⟨x, hx, rfl⟩ := List.mem_map.1 h
    rw [setM_isSome, hS, decide_eq_true hx]
/-- 'm[k]', as an equation. -/
theorem run_mapV_look {P : Program} {w : World} {kt et : TypeId} {b n : Nat} {M : Lit → Option Value} (t : TypeId) (K : Keyed P kt) (ht : P.underlying t = some (.map kt et)) {z : Value} (hz : (zeroValue et).run P w = .ok z w) (hs : MapV w P kt b n M) (key : Value) (kl : Lit) (hkey : keyOf P kt key = some kl) :
    (Instr.lookup t (.map (some b)) key false).run P w = .ok ((M kl).getD z) w := by
  obtain ⟨D, h1, h2, h3⟩ := hs.own
  obtain ⟨v, ps, hrun, hv⟩ := h1.lookup K ht hz (zd := .held z) (zp := []) rfl hkey
  have hval : v = (M kl).getD z := by
    unfold selfElem at hv
    simp only [Option.some.injEq, Prod.mk.injEq] at hv
    cases hM : M kl with
    | none =>
      have hn : has D kl = false := by rw [h2, hM]; rfl
      rw [atKey_of_not_has hn] at hv
      simpa using hv.1
    | some u =>
      rw [h3 kl u hM] at hv
      simpa using hv.1
  rw [hrun, hval]
theorem SV.of_put {w : World} {b n : Nat} {S S' : Int → Bool} {a : Int} (h : MapV w Tryd.prog 3 b n (putM (setM S) (.int .i64 a) (.bool true))) (e : ∀ x, S' x = (S x || decide (x = a))) : SV w b n S' := by
  rw [setM_put] at h
  rw [show S' = fun x => S x || decide (x = a) from funext e]
  exact h
theorem SV.of_del {w : World} {b n : Nat} {S S' : Int → Bool} {a : Int} (h : MapV w Tryd.prog 3 b n (delM (setM S) (.int .i64 a))) (e : ∀ x, S' x = (S x && decide (x ≠ a))) : SV w b n S' := by
  rw [setM_del] at h
  rw [show S' = fun x => S x && decide (x ≠ a) from funext e]
  exact h
theorem SV.ext {w : World} {b n : Nat} {S S' : Int → Bool} (h : SV w b n S) (e : ∀ x, S' x = S x) : SV w b n S' := by
  rw [show S' = S from funext e]
  exact h
theorem sv_look {w : World} {b n : Nat} {S : Int → Bool} (h : SV w b n S) {u : Int} (hk : keyOf Tryd.prog 3 (.int .i64 u) = some (.int .i64 u)) : (Instr.lookup 27 (.map (some b)) (.int .i64 u) false).run Tryd.prog w = .ok (.bool (S u)) w := by
  have := run_mapV_look (w := w) 27 (int_keyed Tryd.underlying3) Tryd.underlying27 (z := .bool false) (by kernel_rfl) h _ _ hk
  rw [setM_look] at this
  exact this
end Go.Proofs.YtojbddcbnnbklaaDoor
