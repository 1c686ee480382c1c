/- The reference's look. A region that draws its order and holds one operation (number s) that writes memory others have read: plain theorems, no function of the program in sight. The reference's Release. -/
import Derived.Test.YtojbddcbnnbklaaGreatDoorRoGb
import Derived.OneCell
import Derived.Test.YtojbddcbnnbklaaGreatDoorFree
import Derived.Test.YtojbddcbnnbklaaGreatDoorRoGc
namespace Go.Proofs.YtojbddcbnnbklaaGreatDoor
open Go.RowKit P43
attribute [local go_sem] ByteArray.mk_append_mk ByteArray.extract_mk mk_index

/-- A slice that reads as owners, in a row of owners. -/
def RsO (w : World) (v : Value) (ls : List Om) : Prop := ∃ A n c, v = .slice A n c ∧ OwsAt w A n ls ∧ n ≤ c ∧ ∀ b off, A = some ⟨b, off, none⟩ → ∃ cs, Blk w b tW cs
/-- A wish lies in a row of locks. -/
def WishT (w : World) (x : Om) : Prop := ∀ b off, x.2.1 = some ⟨b, off, none⟩ → ∃ cs, Blk w b tNL cs
/-- Two slices that stand for a table, its owners out of a list. -/
def LkRes (w : World) (a b : Value) (l : List Om) (t : T) : Prop := ∃ hs ws, RsO w a hs ∧ RsO w b ws ∧ (∀ x ∈ hs ++ ws, x ∈ l) ∧ RT ⟨hs.map (·.1), ws.map (·.1)⟩ t
/-- Two slices that stand for a table. -/
def RTT (w : World) (a b : Value) (t : T) : Prop := ∃ hs ws, RsO w a hs ∧ RsO w b ws ∧ (∀ x ∈ hs ++ ws, WishAt w x ∧ WishT w x) ∧ RT ⟨hs.map (·.1), ws.map (·.1)⟩ t
section
variable {w wr w' : World} {v v1 v2 u a b ov ov' wv wv' : Value} {ls hs hs' st st' : List Om} {outs outs' : List Int} {t : T} {B p r : Nat}
theorem RsO.below (h : RsO w v ls) (hb : Below w.heap.size w w') : RsO w' v ls := by
  obtain ⟨A, n, c, rfl, h1, h2, h3⟩ := h
  refine ⟨A, n, c, rfl, h1.below hb, h2, fun b off e => ?_⟩
  obtain ⟨cs, h4⟩ := h3 b off e
  exact ⟨cs, h4.below hb⟩
theorem RsO.nil (w : World) : RsO w (.slice none 0 0) [] := ⟨none, 0, 0, rfl, OwsAt.nil, Nat.le_refl _, fun b off e => by cases e⟩
theorem RsO.own (h : OwnR w B tW v ls) : RsO w v ls := by
  rcases h.2 with ⟨rfl, h0⟩ | ⟨g, cap, cur, rfl, _, hb, _⟩
  · have : ls = [] := List.eq_nil_of_length_eq_zero h0
    subst this
    exact .nil w
  · obtain ⟨A, c, e, h1, h2⟩ := h.cap
    injection e with e1 e2 e3
    subst e1 e3
    refine ⟨_, _, _, rfl, h1, h2, fun b off e => ?_⟩
    injection e with e
    injection e with e4 e5
    subst e4
    exact ⟨cur, hb⟩
theorem WishT.below {x : Om} (h : WishT w x) (hb : Below w.heap.size w w') : WishT w' x := fun b off e => by
  obtain ⟨cs, h1⟩ := h b off e
  exact ⟨cs, h1.below hb⟩
theorem RTT.below (h : RTT w a b t) (hb : Below w.heap.size w w') : RTT w' a b t := by
  obtain ⟨hs, ws, h1, h2, h3, h4⟩ := h
  exact ⟨hs, ws, h1.below hb, h2.below hb, fun x hx => ⟨(h3 x hx).1.below hb, (h3 x hx).2.below hb⟩, h4⟩
theorem CellsAt.setFar {A : Option Addr} {n s : Nat} {us : List Value} (h : CellsAt w A n s us) {q : Addr} (hq : ∀ b off, A = some ⟨b, off, none⟩ → b ≠ q.block) (x : Value) : CellsAt (w.setCell q x) A n s us := by
  refine ⟨h.1, fun j u hj => ?_⟩
  obtain ⟨b, off, e, h1⟩ := h.2 j u hj
  refine ⟨b, off, e, ?_⟩
  unfold World.cell? at h1 ⊢
  rw [Below.heap_setCell _ _ _ _ (hq b off e)]
  exact h1
theorem Blk.setFar {g : Nat} {ty : TypeId} {cs : Array Value} (h : Blk w g ty cs) {q : Addr} (hq : g ≠ q.block) (x : Value) : Blk (w.setCell q x) g ty cs := by
  unfold Blk at h ⊢
  rw [Below.heap_setCell _ _ _ _ hq]
  exact h
theorem RsO.setCell (h : RsO w v ls) {q : Addr} {ty : TypeId} {cs : Array Value} (hq : Blk w q.block ty cs) (ht : ty ≠ tW) (x : Value) : RsO (w.setCell q x) v ls := by
  obtain ⟨A, n, c, rfl, h1, h2, h3⟩ := h
  have hne : ∀ b off, A = some ⟨b, off, none⟩ → b ≠ q.block := fun b off e e2 => by
    obtain ⟨cs2, h4⟩ := h3 b off e
    rw [e2] at h4
    exact Blk.ne hq h4 ht rfl
  refine ⟨A, n, c, rfl, CellsAt.setFar h1 hne x, h2, fun b off e => ?_⟩
  obtain ⟨cs2, h4⟩ := h3 b off e
  exact ⟨cs2, h4.setFar (hne b off e) x⟩
theorem wish_setCell {y : Om} (h : WishAt w y ∧ WishT w y) {q : Addr} {ty : TypeId} {cs : Array Value} (hq : Blk w q.block ty cs) (ht : ty ≠ tNL) (x : Value) : WishAt (w.setCell q x) y ∧ WishT (w.setCell q x) y := by
  obtain ⟨⟨h1, h2⟩, h3⟩ := h
  have hne : ∀ b off, y.2.1 = some ⟨b, off, none⟩ → b ≠ q.block := fun b off e e2 => by
    obtain ⟨cs2, h4⟩ := h3 b off e
    rw [e2] at h4
    exact Blk.ne hq h4 ht rfl
  refine ⟨⟨CellsAt.setFar h1 hne x, h2⟩, fun b off e => ?_⟩
  obtain ⟨cs2, h4⟩ := h3 b off e
  exact ⟨cs2, h4.setFar (hne b off e) x⟩
theorem RTT.setCell (h : RTT w a b t) {q : Addr} {ty : TypeId} {cs : Array Value} (hq : Blk w q.block ty cs) (ht : ty ≠ tW) (hn : ty ≠ tNL) (x : Value) : RTT (w.setCell q x) a b t := by
  obtain ⟨hs, ws, h1, h2, h3, h4⟩ := h
  exact ⟨hs, ws, h1.setCell hq ht x, h2.setCell hq ht x, fun y hy => wish_setCell (h3 y hy) hq hn x, h4⟩
theorem RTT.slices (h : RTT w a b t) : ∃ A n c B m d, a = .slice A n c ∧ b = .slice B m d := by
  obtain ⟨hs, ws, ⟨A, n, c, e1, _⟩, ⟨B, m, d, e2, _⟩, _⟩ := h
  exact ⟨A, n, c, B, m, d, e1, e2⟩
theorem OwnR.blk (h : OwnR w B tW v ls) : ∀ k, v.ownBlock = some k → ∃ cs, Blk w k tW cs := by
  intro k hk
  rcases h.2 with ⟨rfl, _⟩ | ⟨g, cap, cur, rfl, _, hb, _⟩
  · cases hk
  · injection hk with hk
    subst hk
    exact ⟨cur, hb⟩
theorem OwnR.ne (h : OwnR w B tW v ls) {g : Nat} {ty : TypeId} {cs : Array Value} (hb : Blk w g ty cs) (ht : ty ≠ tW) : v.ownBlock ≠ some g := by
  intro e
  obtain ⟨cs2, hb2⟩ := h.blk g e
  exact Blk.ne hb hb2 ht rfl
theorem OwnR.setCell (h : OwnR w B tW v ls) {q : Addr} (hq : v.ownBlock ≠ some q.block) (x : Value) : OwnR (w.setCell q x) B tW v ls := ownsRow_setCell_other h hq x
theorem OwnI.setC {xs : List Int} (h : OwnI w B v xs) {q : Addr} (hq : v.ownBlock ≠ some q.block) (x : Value) : OwnI (w.setCell q x) B v xs := ownsRow_setCell_other h hq x
theorem OwnI.neB {xs : List Int} (h : OwnI w B v xs) {g : Nat} {ty : TypeId} {cs : Array Value} (hb : Blk w g ty cs) (ht : ty ≠ 3) : v.ownBlock ≠ some g := by
  intro e
  obtain ⟨cs2, hb2⟩ := h.own g e
  exact Blk.ne hb hb2 ht rfl
/-- look at work: the table's box, the result's, the numbers granted, those that still wait. -/
structure RL (w wr : World) (p r : Nat) (v1 v2 ov wv : Value) (hs st : List Om) (outs : List Int) : Prop where
  box : Blk wr p tTb #[v1, v2]
  res : Blk wr r tTb #[.slice none 0 0, .slice none 0 0]
  pb : w.heap.size ≤ p ∧ w.heap.size ≤ r ∧ r ≠ p
  held : RsO w v1 hs ∨ (OwnR wr w.heap.size tW v1 hs ∧ (v1.ownBlock = none ∨ v1.ownBlock ≠ wv.ownBlock))
  wait : OwnR wr w.heap.size tW wv st
  out : OwnI wr w.heap.size ov outs
  low : Below w.heap.size w wr
theorem RL.open_ (k : RL w wr p r v1 v2 ov wv hs st outs) : RsO wr v1 hs := by
  rcases k.held with h | h
  · exact h.below k.low
  · exact .own h.1
theorem RL.below (k : RL w wr p r v1 v2 ov wv hs st outs) (hb : Below wr.heap.size wr w') : RL w w' p r v1 v2 ov wv hs st outs :=
  ⟨k.box.below hb, k.res.below hb, k.pb, k.held.imp id (fun h => ⟨h.1.below hb, h.2⟩), k.wait.below hb, k.out.below hb, k.low.trans (hb.mono k.low.size)⟩
theorem RL.putH (k : RL w wr p r v1 v2 ov wv hs st outs) (hb : Below wr.heap.size wr w') (ho : OwnR w' wr.heap.size tW u hs') : RL w (w'.setCell ⟨p, 0, none⟩ u) p r u v2 ov wv hs' st outs := by
  have k2 := k.below hb
  refine ⟨by simpa using k2.box.put 0 u, k2.res.far k.pb.2.2 u, k.pb, .inr ⟨?_, ?_⟩, k2.wait.setCell (k2.wait.ne k2.box (by decide)) _, k2.out.setC (k2.out.neB k2.box (by decide)) _, k2.low.setCell k.pb.1 _⟩
  · have h1 : OwnR w' w.heap.size tW u hs' := World.ownsRow.mono ho k.low.size
    exact h1.setCell (h1.ne k2.box (by decide)) _
  · cases e : u.ownBlock with
    | none => exact .inl rfl
    | some g =>
      refine .inr fun e2 => ?_
      have h1 := (ho.lt g e).1
      have h2 := (k.wait.lt g e2.symm).2
      omega
theorem RL.pushI {ob : Obj} (k : RL w wr p r v1 v2 ov wv hs st outs) (hg : (wr.alloc ob).grownBy w' ov.ownBlock) (ho : OwnI w' w.heap.size ov' outs') : RL w w' p r v1 v2 ov' wv hs st outs' := by
  have ka := k.below (below_alloc (Below.refl _ wr) ob)
  have hne : ∀ {v : Value} {ls : List Om}, OwnR (wr.alloc ob) w.heap.size tW v ls → v.ownBlock = none ∨ v.ownBlock ≠ ov.ownBlock := by
    intro v ls h
    cases e : v.ownBlock with
    | none => exact .inl rfl
    | some g =>
      refine .inr fun e2 => ?_
      obtain ⟨cs, hb⟩ := ka.out.own g e2.symm
      exact h.ne hb (by decide) e
  refine ⟨ka.box.grown hg (fun e => ka.out.neB ka.box (by decide) (by first | exact e | exact e.symm)), ka.res.grown hg (fun e => ka.out.neB ka.res (by decide) (by first | exact e | exact e.symm)), k.pb, ?_, ka.wait.kept hg (hne ka.wait), ho, ka.low.grown hg ka.low.size (fun j hj => (k.out.lt j hj).1)⟩
  exact ka.held.imp id (fun h => ⟨h.1.kept hg (hne h.1), h.2⟩)
theorem RL.pushW {ob : Obj} (k : RL w wr p r v1 v2 ov wv hs st outs) (hg : (wr.alloc ob).grownBy w' wv.ownBlock) (hat : wv'.ownBlock = wv.ownBlock ∨ wv'.ownBlock = some (wr.alloc ob).heap.size) (ho : OwnR w' w.heap.size tW wv' st') : RL w w' p r v1 v2 ov wv' hs st' outs := by
  have ka := k.below (below_alloc (Below.refl _ wr) ob)
  refine ⟨ka.box.grown hg (fun e => ka.wait.ne ka.box (by decide) (by first | exact e | exact e.symm)), ka.res.grown hg (fun e => ka.wait.ne ka.res (by decide) (by first | exact e | exact e.symm)), k.pb, ?_, ho, ka.out.kept hg ?_, ka.low.grown hg ka.low.size (fun j hj => (k.wait.lt j hj).1)⟩
  · refine ka.held.imp id (fun h => ⟨h.1.kept hg h.2, ?_⟩)
    rcases hat with e | e
    · rw [e]; exact h.2
    · cases e2 : v1.ownBlock with
      | none => exact .inl rfl
      | some g =>
        refine .inr fun e3 => ?_
        rw [e] at e3
        have := (h.1.lt g e2).2
        injection e3 with e3
        omega
  · cases e : ov.ownBlock with
    | none => exact .inl rfl
    | some g =>
      refine .inr fun e2 => ?_
      obtain ⟨cs, hb⟩ := ka.wait.blk g e2.symm
      exact ka.out.neB hb (by decide) e
end
theorem blk_len {ls : List Om} {q : List (Nm × Bool)} {c : Cl} (hc : c.ns = q) : ((sortZ (idsR (blkR ls q))).length = 0 ↔ blk (ls.map (·.1)) c = []) := by
  subst hc
  rw [len_sortZ, blkR_ids]
  unfold ids
  rw [List.length_map, List.length_eq_zero_iff]
theorem insAt_fst {ls : List Om} {k : Nat} {x : Om} (h : InsAt (fun y : Om => y.1.id) ls x.1.id k) : InsAt Cl.id (ls.map (·.1)) x.1.id k ∧ (ls.take k ++ x :: ls.drop k).map (·.1) = (ls.map (·.1)).take k ++ x.1 :: (ls.map (·.1)).drop k := by
  refine ⟨⟨by rw [List.length_map]; exact h.le, fun j y hj hy => ?_, ?_⟩, by rw [List.map_append, List.map_cons, List.map_take, List.map_drop]⟩
  · rw [List.getElem?_map, Option.map_eq_some_iff] at hy
    obtain ⟨z, hz, rfl⟩ := hy
    exact h.after j z hj hz
  · rcases h.before with e | ⟨z, hz, hle⟩
    · exact .inl e
    · exact .inr ⟨z.1, by rw [List.getElem?_map, hz]; rfl, hle⟩
theorem ins_mem {ls : List Om} {k : Nat} {x y : Om} (h : y ∈ ls.take k ++ x :: ls.drop k) : y ∈ ls ∨ y = x := by
  rcases List.mem_append.1 h with h | h
  · exact .inl (List.mem_of_mem_take h)
  · rcases List.mem_cons.1 h with h | h
    · exact .inr h
    · exact .inl (List.mem_of_mem_drop h)
set_option maxRecDepth 100000 in
set_option maxHeartbeats 16000000 in
theorem refLook (v1 v2 : Value) (t : T) (hs0 ws : List Om) (w : World) (h1 : RsO w v1 hs0) (h2 : RsO w v2 ws) (hW : ∀ x ∈ hs0 ++ ws, WishAt w x) (hR : RT ⟨hs0.map (·.1), ws.map (·.1)⟩ t) (hn : hs0.length + ws.length ≤ 90000) :
    Calls Tryz.prog 30 #[.agg #[v1, v2]] w fun e w' => ∃ a b vo, e = .returned (.tuple #[.agg #[a, b], vo]) ∧ LkRes w' a b (hs0 ++ ws) (P43.look t).1 ∧ OwnI w' w.heap.size vo (P43.look t).2 ∧ Below w.heap.size w w' := by
  have H1 := Lib.hid h1
  have HWI := Lib.hid hW
  have HRT := Lib.hid hR
  have HNN := Lib.hid hn
  obtain ⟨Aw, nw, cw, rfl, hw2, hcw, -⟩ := h2
  have H2 := Lib.hid hw2
  have HL2 := Lib.hid hw2.len
  have hnw : nw ≤ 90000 := by have := hw2.len; omega
  have hlenW : (Tryz.prog.info? tW).map (·.size) = some 2 := by kernel_rfl
  have hlenT : (Tryz.prog.info? tTb).map (·.size) = some 2 := by kernel_rfl
  obtain ⟨i0, hi0, hz0, hz1, hz2⟩ := info_parts infoW
  have HI := Lib.hid hi0
  have HZ0 := Lib.hid hz0
  have HZ1 := Lib.hid hz1
  have HZ2 := Lib.hid hz2
  obtain ⟨i1, hi1, hy0, hy1, hy2⟩ := info_parts infoI
  have HI1 := Lib.hid hi1
  have HY0 := Lib.hid hy0
  have HY1 := Lib.hid hy1
  have HY2 := Lib.hid hy2
  clear h1 hW hR hn hw2 hcw hi0 hz0 hz1 hz2 hi1 hy0 hy1 hy2
  go_enter Tryz.func30, Tryz.ntmps30
  go_upto_region 1 with (fail)
  obtain ⟨w1, p, r, e1, e2, e3, hb1, h1, h2⟩ := boxes2 w tTb #[v1, .slice Aw nw cw] #[.slice none 0 0, .slice none 0 0]
  rw [e1, e3, e2]
  have hp0 : w.heap.size ≤ p := by omega
  have hr0 : w.heap.size ≤ r := by omega
  have hpr : r ≠ p := by omega
  have HB1 := Lib.hid hb1
  have HS1 := Lib.hid h1
  have HR1 := Lib.hid h2
  have hz1 := hb1.size
  clear e1 e2 e3 hb1 h1 h2
  go_upto_region 3 with (fail)
  obtain ⟨w3, q1, q2, e1, e2, e3, hb3, h3, h4⟩ : ∃ (w3 : World) (q1 q2 : Nat), (w1.alloc (.cells #[] 3)).alloc (.cells #[] tW) = w3 ∧ w1.heap.size = q1 ∧ w1.heap.size + 1 = q2 ∧ Below w1.heap.size w1 w3 ∧ Blk w3 q1 3 #[] ∧ Blk w3 q2 tW #[] :=
    ⟨_, _, _, rfl, rfl, rfl, below_alloc (below_alloc (Below.refl _ _) _) _, (Blk.new w1 _ _).alloc _, by
      have := Blk.new (w1.alloc (.cells #[] 3)) tW #[]
      rwa [World.size_alloc] at this⟩
  rw [e1, e3, e2]
  have HRL := Lib.hid (show RL w w3 p r v1 (.slice Aw nw cw) (.slice (some ⟨q1, 0, none⟩) 0 0) (.slice (some ⟨q2, 0, none⟩) 0 0) hs0 [] [] from
    ⟨HS1.out.below hb3, HR1.out.below hb3, ⟨hp0, hr0, hpr⟩, .inl H1.out, OwnR.empty (by omega) h4, OwnI.empty (by omega) h3, HB1.out.trans (hb3.mono hz1)⟩)
  have HLK := Lib.hid (LookR.start HRT.out)
  clear e1 e2 e3 hb3 h3 h4 hp0 hr0 hpr
  go_wp2
  go_loopw [4, 5, 6] (fun ov wv iv wr => ∃ (k : Nat) (v1 : Value) (hs st : List Om) (outs : List Int), k ≤ nw ∧ iv = .int .i64 k ∧ RL w wr p r v1 (.slice Aw nw cw) ov wv hs st outs ∧ Hid (LookR t (hs.map (·.1)) k (st.map (·.1)) outs) ∧ Hid (∀ x ∈ hs ++ st, x ∈ hs0 ++ ws) ∧ Hid (outs.length ≤ k)) (fun _ _ iv _ => nw - (intOf iv).toNat)
  case atStart => exact ⟨0, v1, hs0, [], [], Nat.zero_le _, rfl, HRL.out, HLK.out, fun x hx => List.mem_append_left _ (by simpa using hx), Nat.le_refl _⟩
  case round =>
    clear HRL HLK HS1 HR1 HB1
    obtain ⟨k, v1', hs, st, outs, hk, rfl, hg, hlk, hwi, hol⟩ := hrel
    have HG := Lib.hid hg
    have hsz := hg.low.size
    obtain ⟨A1, n1, c1, rfl, hs1, hc1, -⟩ := hg.open_
    have z0 := hg.box.cell 0
    have z1 := hg.box.cell 1
    simp at z0 z1
    have HSH := Lib.hid hs1
    have hl1 := hs1.len
    have hlen := hlk.out.len
    have HWT := Lib.hid (show t.ws.length = nw from by have h := HRT.out.wait; have h2 := congrArg List.length h; rw [List.length_map, HL2.out] at h2; exact h2.symm)
    have hnn : t.hs.length + t.ws.length ≤ 90000 := by
      have h1 := HRT.out.perm.length_eq
      rw [List.length_map] at h1
      have h2 := HWT.out
      have h3 := HNN.out
      have h4 := HL2.out
      omega
    rw [List.length_map, List.length_map] at hlen
    have HN1 := Lib.hid (show n1 ≤ 90000 from by omega)
    have hn190 : n1 ≤ 90000 := HN1.out
    obtain ⟨B1, c2, rfl, hs2, hc2⟩ := hg.wait.cap
    obtain ⟨m, hm⟩ : ∃ m, st.length = m := ⟨_, rfl⟩
    rw [hm] at hs2 hc2 HG ⊢
    have hm90 : m ≤ 90000 := by omega
    have HSW := Lib.hid hs2
    have HM := Lib.hid hm
    clear hg hs1 hs2 hl1 hlen hm hnn
    by_cases hlt : k < nw
    · obtain ⟨b, off, x, rfl, hx, x0, x1⟩ := (OwsAt.below H2.out HG.out.low).at_ hlt
      have HR := Lib.hid ((OwsAt.below H2.out HG.out.low).row hx)
      have HXT := Lib.hid (show t.ws[k]? = some x.1 from by
        have h := HRT.out.wait
        simp only at h
        rw [← h, List.getElem?_map, hx]
        rfl)
      have HMX := Lib.hid (show x ∈ hs0 ++ ws from List.mem_append_right _ (List.mem_of_getElem? hx))
      have HWX := Lib.hid (HWI.out x HMX.out)
      have hk1 : (k : Int) < (nw : Int) := by omega
      have hk2 : (0 : Int) ≤ (k : Int) := by omega
      clear hx x0 x1
      go_upto_region 7 with (refine wpList_load_cells rfl tW (.tmp 20) rfl ⟨b, off + k * 2, none⟩ rfl _ _ HR.out Tryz.underlying68 rfl hlenW ?_)
      obtain ⟨w4, g4, e1, e2, hb4, h4⟩ := boxes1 wr tW (ra x)
      unfold ra at e1
      rw [e1, e2]
      have HG4 := Lib.hid (HG.out.below hb4)
      have HX4 := Lib.hid h4
      have hgp : g4 ≠ p := by have := HG.out.box.lt; omega
      have HSH4 := Lib.hid (HSH.out.below hb4)
      have HSW4 := Lib.hid (HSW.out.below hb4)
      have HWH4 := Lib.hid (show ∀ y ∈ hs, WishAt w4 y from fun y hy => (HWI.out y (hwi.out y (List.mem_append_left _ hy))).below HG4.out.low)
      have HWS4 := Lib.hid (show ∀ y ∈ st, WishAt w4 y from fun y hy => (HWI.out y (hwi.out y (List.mem_append_right _ hy))).below HG4.out.low)
      have HWX4 := Lib.hid (HWX.out.below HG4.out.low)
      have hxn := HWX4.out.2
      have z0 := HG4.out.box.cell 0
      have y1 := HX4.out.cell 1
      simp [ra] at z0 y1
      obtain ⟨la, hla⟩ : ∃ la, (sortZ (idsR (blkR hs x.1.ns))).length = la := ⟨_, rfl⟩
      obtain ⟨lb, hlb⟩ : ∃ lb, (sortZ (idsR (blkR st x.1.ns))).length = lb := ⟨_, rfl⟩
      have HA := Lib.hid hla
      have HC := Lib.hid hlb
      have HAI := Lib.hid (show la = 0 ↔ blk (hs.map (·.1)) x.1 = [] from by rw [← hla]; exact blk_len rfl)
      have HCI := Lib.hid (show lb = 0 ↔ blk (st.map (·.1)) x.1 = [] from by rw [← hlb]; exact blk_len rfl)
      clear e1 e2 hb4 h4 hla hlb HG HSH HSW
      cases la with
      | succ a' =>
        have b0 : ((a' : Int) + 1 == 0) = false := by
          rw [beq_eq_false_iff_ne]
          omega
        have HNB := Lib.hid (show ¬ (blk (hs.map (·.1)) x.1 = [] ∧ blk (st.map (·.1)) x.1 = []) from fun h => by
          have := HAI.out.2 h.1
          omega)
        go_upto_region 10 with (first | (go_at_call 28; refine (refBlocked B1 x.2.1 m c2 x.2.2.1 x.2.2.2 st x.1.ns w5 (HSW4.out.below HB5.out) (fun y hy => (HWS4.out y hy).below HB5.out) (HWX4.out.below HB5.out).1 (by omega) HWX4.out.2).mono ?_; rintro e w6 ⟨v6, rfl, ho6, hb6⟩; obtain ⟨A6, c6, hv6, -, -⟩ := ho6.zcells; rw [HC.out] at hv6; subst hv6; have HB6 := Lib.hid (HB5.out.trans (hb6.mono HB5.out.size)); clear ho6 hb6) | (go_at_call 28; refine (refBlocked A1 x.2.1 n1 c1 x.2.2.1 x.2.2.2 hs x.1.ns _ HSH4.out HWH4.out HWX4.out.1 (by omega) HWX4.out.2).mono ?_; rintro e w5 ⟨v5, rfl, ho5, hb5⟩; obtain ⟨A5, c5, hv5, -, -⟩ := ho5.zcells; rw [HA.out] at hv5; subst hv5; have HB5 := Lib.hid hb5; have y1 := (HX4.out.below hb5).cell 1; simp [ra] at y1; clear ho5 hb5))
        have HG6 := Lib.hid (HG4.out.below HB5.out)
        have HX6 := Lib.hid (HX4.out.below HB5.out)
        have HXR := Lib.hid (show ∀ (j : Nat) (u : Value), (#[.int .i64 x.1.id, .slice x.2.1 x.2.2.1 x.2.2.2] : Array Value)[j]? = some u → w5.cell? ((⟨g4, 0, none⟩ : Addr).add j) = some u from HX6.out.add)
        clear z0 y1 b0
        go_wp2_with (first | (refine wpList_load_cells rfl tW (.tmp 7) rfl ⟨g4, 0, none⟩ rfl _ _ HXR.out Tryz.underlying68 rfl hlenW ?_) | (at_builtin; refine wpList_append_ow rfl (.tmp 47) (.tmp 49) _ rfl w.heap.size tW i0 _ 32 Tryz.underlying27 HI.out HZ0.out HZ1.out HZ2.out rfl (by omega) _ st rfl (HG6.out.wait.alloc _) x w5.heap.size 0 1 rfl (OwsAt.lit1 w5 tW x) (by rw [HM.out]; omega) (by have := HG6.out.low.size; simp; omega) ?_; intro v9 w9 hown9 hg9 hat9 hnn; have HP9 := Lib.hid (HG6.out.pushW hg9 hat9 hown9); clear hown9 hg9 hat9 hnn))
        refine ⟨⟨k + 1, _, _, _, _, hlt, by simp, HP9.out, ?_, ?_, Nat.le_succ_of_le hol.out⟩, by dsimp only [intOf]; omega⟩
        · have h := hlk.out.wait HXT.out HNB.out
          rw [List.map_append]
          exact h
        · intro y hy
          rw [← List.append_assoc] at hy
          rcases List.mem_append.1 hy with hy | hy
          · exact hwi.out y hy
          · rw [List.mem_singleton.1 hy]
            exact HMX.out
      | zero =>
        cases lb with
        | succ b' =>
          have b0 : ((b' : Int) + 1 == 0) = false := by
            rw [beq_eq_false_iff_ne]
            omega
          have HNB := Lib.hid (show ¬ (blk (hs.map (·.1)) x.1 = [] ∧ blk (st.map (·.1)) x.1 = []) from fun h => by
            have := HCI.out.2 h.2
            omega)
          go_upto_region 10 with (first | (go_at_call 28; refine (refBlocked B1 x.2.1 m c2 x.2.2.1 x.2.2.2 st x.1.ns w5 (HSW4.out.below HB5.out) (fun y hy => (HWS4.out y hy).below HB5.out) (HWX4.out.below HB5.out).1 (by omega) HWX4.out.2).mono ?_; rintro e w6 ⟨v6, rfl, ho6, hb6⟩; obtain ⟨A6, c6, hv6, -, -⟩ := ho6.zcells; rw [HC.out] at hv6; subst hv6; have HB6 := Lib.hid (HB5.out.trans (hb6.mono HB5.out.size)); clear ho6 hb6) | (go_at_call 28; refine (refBlocked A1 x.2.1 n1 c1 x.2.2.1 x.2.2.2 hs x.1.ns _ HSH4.out HWH4.out HWX4.out.1 (by omega) HWX4.out.2).mono ?_; rintro e w5 ⟨v5, rfl, ho5, hb5⟩; obtain ⟨A5, c5, hv5, -, -⟩ := ho5.zcells; rw [HA.out] at hv5; subst hv5; have HB5 := Lib.hid hb5; have y1 := (HX4.out.below hb5).cell 1; simp [ra] at y1; clear ho5 hb5))
          have HG6 := Lib.hid (HG4.out.below HB6.out)
          have HX6 := Lib.hid (HX4.out.below HB6.out)
          have HXR := Lib.hid (show ∀ (j : Nat) (u : Value), (#[.int .i64 x.1.id, .slice x.2.1 x.2.2.1 x.2.2.2] : Array Value)[j]? = some u → w6.cell? ((⟨g4, 0, none⟩ : Addr).add j) = some u from HX6.out.add)
          clear z0 y1 b0
          go_wp2_with (first | (refine wpList_load_cells rfl tW (.tmp 7) rfl ⟨g4, 0, none⟩ rfl _ _ HXR.out Tryz.underlying68 rfl hlenW ?_) | (at_builtin; refine wpList_append_ow rfl (.tmp 47) (.tmp 49) _ rfl w.heap.size tW i0 _ 32 Tryz.underlying27 HI.out HZ0.out HZ1.out HZ2.out rfl (by omega) _ st rfl (HG6.out.wait.alloc _) x w6.heap.size 0 1 rfl (OwsAt.lit1 w6 tW x) (by rw [HM.out]; omega) (by have := HG6.out.low.size; simp; omega) ?_; intro v9 w9 hown9 hg9 hat9 hnn; have HP9 := Lib.hid (HG6.out.pushW hg9 hat9 hown9); clear hown9 hg9 hat9 hnn))
          refine ⟨⟨k + 1, _, _, _, _, hlt, by simp, HP9.out, ?_, ?_, Nat.le_succ_of_le hol.out⟩, by dsimp only [intOf]; omega⟩
          · have h := hlk.out.wait HXT.out HNB.out
            rw [List.map_append]
            exact h
          · intro y hy
            rw [← List.append_assoc] at hy
            rcases List.mem_append.1 hy with hy | hy
            · exact hwi.out y hy
            · rw [List.mem_singleton.1 hy]
              exact HMX.out
        | zero =>
          go_upto_region 8 with (first | (go_at_call 28; refine (refBlocked B1 x.2.1 m c2 x.2.2.1 x.2.2.2 st x.1.ns w5 (HSW4.out.below HB5.out) (fun y hy => (HWS4.out y hy).below HB5.out) (HWX4.out.below HB5.out).1 (by omega) HWX4.out.2).mono ?_; rintro e w6 ⟨v6, rfl, ho6, hb6⟩; obtain ⟨A6, c6, hv6, -, -⟩ := ho6.zcells; rw [HC.out] at hv6; subst hv6; have HB6 := Lib.hid (HB5.out.trans (hb6.mono HB5.out.size)); clear ho6 hb6) | (go_at_call 28; refine (refBlocked A1 x.2.1 n1 c1 x.2.2.1 x.2.2.2 hs x.1.ns _ HSH4.out HWH4.out HWX4.out.1 (by omega) HWX4.out.2).mono ?_; rintro e w5 ⟨v5, rfl, ho5, hb5⟩; obtain ⟨A5, c5, hv5, -, -⟩ := ho5.zcells; rw [HA.out] at hv5; subst hv5; have HB5 := Lib.hid hb5; have y1 := (HX4.out.below hb5).cell 1; simp [ra] at y1; clear ho5 hb5))
          have HG6 := Lib.hid (HG4.out.below HB6.out)
          have HX6 := Lib.hid (HX4.out.below HB6.out)
          have HXR := Lib.hid (show ∀ (j : Nat) (u : Value), (#[.int .i64 x.1.id, .slice x.2.1 x.2.2.1 x.2.2.2] : Array Value)[j]? = some u → w6.cell? ((⟨g4, 0, none⟩ : Addr).add j) = some u from HX6.out.add)
          have HSH6 := Lib.hid (HSH4.out.below HB6.out)
          have hsl : hs.length = n1 := HSH6.out.len
          clear z0 y1
          have z0 := HG6.out.box.cell 0
          simp at z0
          go_upto_region 9 with (first | (refine wpList_load_cells rfl tW (.tmp 7) rfl ⟨g4, 0, none⟩ rfl _ _ HXR.out Tryz.underlying68 rfl hlenW ?_) | (go_at_call 29; refine (refHold A1 n1 c1 x hs w6 HSH6.out hc1 (by omega)).mono ?_; rintro e w7 ⟨v7, rfl, hex, hb7⟩; obtain ⟨j, hij, ho7⟩ := hex; have hjl := hij.le; rw [hsl] at hjl; obtain ⟨A7, c7, hv7, -, -⟩ := ho7.cap; rw [ins_len hsl hjl x] at hv7; have HIJ := Lib.hid hij; have HJL := Lib.hid hjl; have HO7 := Lib.hid ho7; have HB7 := Lib.hid hb7; have HG7 := Lib.hid (HG6.out.below hb7); have hfr := HG7.out.box.frozen 0; have hcr := HG7.out.box.cell 0; have hpl := HG7.out.box.lt; simp at hcr; subst hv7; clear hij ho7 hb7 hjl))
          have HP8 := Lib.hid (HG6.out.putH HB7.out HO7.out)
          have HX8 := Lib.hid ((HX6.out.below HB7.out).far (p := ⟨p, 0, none⟩) hgp (.slice A7 (j + 1 + (n1 - j)) c7))
          generalize w7.setCell ⟨p, 0, none⟩ _ = w8 at HP8 HX8 ⊢
          clear hfr hcr hpl HO7 HG7 HB7 z0 HG4 HX4 HSH4 HSW4 HWH4 HWS4 HWX4
          have y0 := HX8.out.cell 0
          simp [ra] at y0
          go_wp2_with (at_builtin; refine wpList_append_int rfl (.tmp 42) (.tmp 45) _ rfl w.heap.size i1 _ Tryz.underlying33 HI1.out HY0.out HY1.out HY2.out rfl _ outs rfl (HP8.out.out.alloc _) x.1.id w8.heap.size 1 rfl (World.cell?_alloc_mark w8 _ 3 (0, 0) 0) (by have := hol.out; omega) (by have := HP8.out.low.size; simp; omega) ?_; intro v9 w9 hown9 hg9 hat9; have HP9 := Lib.hid (HP8.out.pushI hg9 hown9); clear hown9 hg9 hat9)
          refine ⟨⟨k + 1, _, _, _, _, hlt, by simp, HP9.out, ?_, ?_, ?_⟩, by dsimp only [intOf]; omega⟩
          · have hi := insAt_fst HIJ.out
            have h := hlk.out.give HXT.out (HAI.out.1 (by simp)) (HCI.out.1 (by simp)) hi.1
            rw [hi.2]
            exact h
          · intro y hy
            rcases List.mem_append.1 hy with hy | hy
            · rcases ins_mem hy with hy | rfl
              · exact hwi.out y (List.mem_append_left _ hy)
              · exact HMX.out
            · exact hwi.out y (List.mem_append_right _ hy)
          · have := hol.out
            simp
            omega
    · have hkn : k = nw := by omega
      have hk1 : ¬ (k : Int) < (nw : Int) := by omega
      have HDN := Lib.hid (hlk.out.done (by rw [HWT.out]; omega))
      have hfr := HG.out.box.frozen 1
      have hcr := HG.out.box.cell 1
      have hpl := HG.out.box.lt
      simp at hcr
      clear hlk
      have hnp := HG.out.wait.ne HG.out.box (by decide)
      have hnr := HG.out.wait.ne HG.out.res (by decide)
      have hop := HG.out.out.neB HG.out.box (by decide)
      have hor := HG.out.out.neB HG.out.res (by decide)
      go_upto_region 12 with (fail)
      have HP12 := Lib.hid (show Blk (wr.setCell ⟨p, 1, none⟩ (.slice B1 m c2)) p tTb #[.slice A1 n1 c1, .slice B1 m c2] from by simpa using HG.out.box.put 1 (.slice B1 m c2))
      have HR12 := Lib.hid (HG.out.res.far (p := ⟨p, 1, none⟩) HG.out.pb.2.2 (.slice B1 m c2))
      have HL12 := Lib.hid (HG.out.low.setCell (p := ⟨p, 1, none⟩) HG.out.pb.1 (.slice B1 m c2))
      have HO12 := Lib.hid (HG.out.out.setC (q := ⟨p, 1, none⟩) hop (.slice B1 m c2))
      have HW12 := Lib.hid (HG.out.wait.setCell (q := ⟨p, 1, none⟩) hnp (.slice B1 m c2))
      have HH12 := Lib.hid (show RsO w (.slice A1 n1 c1) hs ∨ (OwnR (wr.setCell ⟨p, 1, none⟩ (.slice B1 m c2)) w.heap.size tW (.slice A1 n1 c1) hs ∧ (Value.slice A1 n1 c1).ownBlock ≠ some r) from HG.out.held.imp id (fun h => ⟨h.1.setCell (h.1.ne HG.out.box (by decide)) _, h.1.ne HG.out.res (by decide)⟩))
      have hpb := HG.out.pb.2.1
      generalize wr.setCell ⟨p, 1, none⟩ _ = w12 at HP12 HR12 HL12 HO12 HW12 HH12 ⊢
      clear hfr hcr hpl HG HSH HSW z0 z1
      have HPL := Lib.hid (show ∀ (j : Nat) (u : Value), (#[.slice A1 n1 c1, .slice B1 m c2] : Array Value)[j]? = some u → w12.cell? ((⟨p, 0, none⟩ : Addr).add j) = some u from HP12.out.add)
      have hcr0 := HR12.out.cell 0
      have hcr1 := HR12.out.cell 1
      simp at hcr0 hcr1
      have hfr0 := HR12.out.frozen 0
      have hfr1 := HR12.out.frozen 1
      have hrl := HR12.out.lt
      go_wp2_with (refine wpList_load_cells rfl tTb (.tmp 1) rfl ⟨p, 0, none⟩ rfl _ _ HPL.out Tryz.underlying29 rfl hlenT ?_)
      have HLF := Lib.hid ((HL12.out.setCell (p := ⟨r, 0, none⟩) hpb (.slice A1 n1 c1)).setCell (p := ⟨r, 1, none⟩) hpb (.slice B1 m c2))
      have HOF := (HO12.out.setC (q := ⟨r, 0, none⟩) hor (.slice A1 n1 c1)).setC (q := ⟨r, 1, none⟩) hor (.slice B1 m c2)
      rw [HDN.out.2] at HOF
      have HOF := Lib.hid HOF
      refine bodyPost_ret (v := .tuple #[.agg #[.slice A1 n1 c1, .slice B1 m c2], _]) (by simp [results, Tryz.results30, go_sem, hcr0, hcr1]) rfl ⟨_, _, _, rfl, ⟨hs, st, ?_, ?_, ?_, ?_⟩, HOF.out, HLF.out⟩
      · rcases HH12.out with h | ⟨h, hr⟩
        · exact h.below HLF.out
        · exact .own ((h.setCell (q := ⟨r, 0, none⟩) hr _).setCell (q := ⟨r, 1, none⟩) hr _)
      · exact .own ((HW12.out.setCell (q := ⟨r, 0, none⟩) hnr _).setCell (q := ⟨r, 1, none⟩) hnr _)
      · exact hwi.out
      · exact HDN.out.1
end Go.Proofs.YtojbddcbnnbklaaGreatDoor
namespace Go.Proofs.YtojbddcbnnbklaaGreatDoor


/-- Every operation waits for earlier ones alone. -/
def back2B : Nat → List Oper → Bool
  | _, [] => true
  | k, o :: l => o.after.all (fun e => !Region.binds .any e || decide (e.on < k)) && back2B (k + 1) l
theorem back2B_at : ∀ (l : List Oper) (k : Nat), back2B k l = true → ∀ i o, l[i]? = some o → ∀ e ∈ o.after, Region.binds .any e = true → e.on < k + i
  | [], _, _, i, o, h => by simp at h
  | x :: l, k, hb, 0, o, h => by
    simp only [List.getElem?_cons_zero, Option.some.injEq] at h
    subst h
    simp only [back2B, Bool.and_eq_true] at hb
    intro e he hb2
    have := Array.all_eq_true_iff_forall_mem.1 hb.1 e he
    simpa [hb2] using this
  | x :: l, k, hb, i + 1, o, h => by
    simp only [back2B, Bool.and_eq_true] at hb
    intro e he hb2
    have := back2B_at l (k + 1) hb.2 i o (by simpa using h) e he hb2
    omega

section
variable {P : Program} {ops : Array Oper} {Q : Exit → Act → World → Prop}
/-- Nothing is ready: all is listed. -/
theorem all_listed2 (hB : back2B 0 ops.toList = true) {listed : Array Bool} (hr : Region.ready .any ops listed = []) : ∀ i, i < ops.size → listed.getD i true = true := by
  intro i
  induction i using Nat.strongRecOn with
  | _ i ih =>
    intro hi
    cases hl : listed.getD i true with
    | true => rfl
    | false =>
      exfalso
      have ho : ops[i]? = some ops[i] := Array.getElem?_eq_getElem hi
      have ho' : ops.toList[i]? = some ops[i] := by simp [hi]
      have : i ∈ Region.ready .any ops listed := mem_ready.2 ⟨hl, ops[i], ho, fun e he hb2 => by
        have hlt := back2B_at ops.toList 0 hB i ops[i] ho' e he hb2
        have h1 := ih e.on (by omega) (by omega)
        have hsz : e.on < listed.size := by
          rcases Nat.lt_or_ge i listed.size with h | h
          · omega
          · simp [Array.getD, Nat.not_lt.2 h] at hl
        simp only [Array.getD, hsz, dif_pos] at h1 ⊢
        exact h1⟩
      rw [hr] at this
      cases this

theorem wpAny_once (hB : back2B 0 ops.toList = true) (J : Array Bool → Act → World → Prop)
    (hstep : ∀ listed a w i o, J listed a w → listed.getD i true = false → ops[i]? = some o → (∀ j, waits o j = true → listed.getD j false = true) → wpOp P ops Q i (fun a' w' => J (listed.setIfInBounds i true) a' w') a w)
    (hend : ∀ listed a w, J listed a w → (∀ i, i < ops.size → listed.getD i true = true) → Q .normal a w) :
    ∀ (fuel : Nat) (listed : Array Bool) (a : Act) (w : World), listed.toList.count false ≤ fuel → J listed a w → wpAny P .any ops Q fuel listed a w := by
  have rdy : ∀ listed j, j ∈ Region.ready .any ops listed → listed.getD j true = false ∧ ∃ o, ops[j]? = some o ∧ ∀ k, waits o k = true → listed.getD k false = true := by
    intro listed j hj
    obtain ⟨h1, o, ho, hall⟩ := mem_ready.1 hj
    refine ⟨h1, o, ho, fun k hk => ?_⟩
    rw [waits_arr] at hk
    rw [Array.any_eq_true] at hk
    obtain ⟨x, hx, h2⟩ := hk
    have he : o.after[x] ∈ o.after := Array.getElem_mem hx
    generalize o.after[x] = e at he h2
    simp only [Bool.and_eq_true, beq_iff_eq] at h2
    rw [← h2.1]
    exact hall e he h2.2
  have pos : ∀ (listed : Array Bool) j, listed.getD j true = false → ∃ h : j < listed.size, listed[j] = false := by
    intro listed j h
    rcases Nat.lt_or_ge j listed.size with hlt | hge
    · refine ⟨hlt, ?_⟩
      simpa [Array.getD, hlt] using h
    · simp [Array.getD, Nat.not_lt.2 hge] at h
  intro fuel
  induction fuel with
  | zero =>
    intro listed a w hc hJ
    have h0 : Region.ready .any ops listed = [] := by
      apply List.eq_nil_iff_forall_not_mem.2
      intro j hj
      obtain ⟨hlt, hf⟩ := pos listed j (rdy listed j hj).1
      have : false ∈ listed.toList := by
        rw [← hf]
        exact Array.mem_toList_iff.2 (Array.getElem_mem hlt)
      have := List.count_pos_iff.2 this
      omega
    exact ⟨h0, hend listed a w hJ (all_listed2 hB h0)⟩
  | succ fuel ih =>
    intro listed a w hc hJ
    refine ⟨fun h0 => hend listed a w hJ (all_listed2 hB h0), fun i hi => ?_⟩
    obtain ⟨h1, o, ho, hw⟩ := rdy listed i hi
    obtain ⟨hlt, hf⟩ := pos listed i h1
    refine wpOp_mono (fun a' w' hJ' => ih _ a' w' ?_ hJ') (hstep listed a w i o hJ h1 ho hw)
    have h2 : (listed.setIfInBounds i true).toList = listed.toList.set i true := by simp
    rw [h2]
    have hlt' : i < listed.toList.length := by simpa using hlt
    have h3 : listed.toList[i]'hlt' = false := by simpa using hf
    rw [List.count_set hlt', h3]
    have : 0 < listed.toList.count false := List.count_pos_iff.2 (by rw [← h3]; exact List.getElem_mem _)
    simp only [beq_self_eq_true, if_true, Bool.true_eq_false, beq_iff_eq, if_false]
    omega


/-- No two operations of the list write the same slot. -/
def apart2B : List Oper → Bool
  | [] => true
  | o :: l => (o.dst.isNone || l.all (fun o' => o'.dst != o.dst)) && apart2B l
theorem putAll_upd2 : ∀ (l : List Oper) (a : Act) (u : Nat → Value) (k i : Nat) (o : Oper) (v : Value), apart2B l = true → l[i]? = some o → (putAll a l u k).put o.dst v = putAll a l (upd u (k + i) v) k
  | [], _, _, _, _, _, _, _, h => by simp at h
  | x :: l, a, u, k, 0, o, v, hap, h => by
    simp only [List.getElem?_cons_zero, Option.some.injEq] at h
    subst h
    simp only [apart2B, Bool.and_eq_true, Bool.or_eq_true, List.all_eq_true] at hap
    have e2 : ∀ a : Act, putAll a l u (k + 1) = putAll a l (upd u (k + 0) v) (k + 1) := fun a => putAll_ext l _ _ _ _ (fun j h1 _ => by unfold upd; rw [if_neg (by omega)])
    rcases hap.1 with hn | hne
    · have hd : x.dst = none := by simpa using hn
      rw [putAll, putAll, hd]
      exact e2 _
    · have hne : ∀ o' ∈ l, o'.dst ≠ x.dst := fun o' ho' => by simpa using hne o' ho'
      rw [putAll, putAll, ← putAll_put _ x.dst v l u (k + 1) hne, put_put]
      have e1 : upd u (k + 0) v k = v := by simp [upd]
      rw [e1]
      exact e2 _
  | x :: l, a, u, k, i + 1, o, v, hap, h => by
    simp only [apart2B, Bool.and_eq_true] at hap
    rw [putAll, putAll, putAll_upd2 l _ u (k + 1) i o v hap.2 (by simpa using h)]
    have e1 : upd u (k + (i + 1)) v k = u k := by unfold upd; rw [if_neg (by omega)]
    rw [e1, show k + 1 + i = k + (i + 1) from by omega]
theorem putAll_self2 : ∀ (l : List Oper) (a : Act) (k : Nat), apart2B l = true → ∃ u, putAll a l u k = a ∧ True
  | [], a, _, _ => ⟨fun _ => undef, rfl, trivial⟩
  | o :: l, a, k, h => by
    simp only [apart2B, Bool.and_eq_true] at h
    obtain ⟨u, hu, _⟩ := putAll_self2 l a (k + 1) h.2
    cases hd : o.dst with
    | none =>
      refine ⟨u, ?_, trivial⟩
      rw [putAll, hd]
      exact hu
    | some d =>
      refine ⟨upd u k (a.tmps.getD d undef), ?_, trivial⟩
      have e1 : upd u k (a.tmps.getD d undef) k = a.tmps.getD d undef := by simp [upd]
      rw [putAll, e1, hd, put_self]
      exact (putAll_ext l _ _ _ _ (fun j h1 _ => by unfold upd; rw [if_neg (by omega)])).trans hu
/-- The rule: C false is known of every world ahead of operation s, C true behind it; what s waits for (along its edges) comes ahead of it. -/
theorem wp_region_once {id : Nat} {a : Act} {w : World} (f s : Nat) (hm : P.follows .mixedOrders = true) (hB : (back2B 0 ops.toList && apart2B ops.toList && decide (s < ops.size)) = true) (R : World → World → Prop) (C : Bool → World → Prop) (Fact : Nat → Value → World → Prop)
    (hFR : ∀ i v w w', Fact i v w → R w w' → Fact i v w') (hC : C false { w with drawn := w.drawn + 1 })
    (hops : allOps (fun i o => ∀ u w b, C b w → ((reachB ops f s i || decide (i = s)) = true → b = false) → (∀ j, waits o j = true → Fact j (u j) w) → ∀ K : Act → World → Prop, (∀ v w', R w w' → C (b || decide (i = s)) w' → Fact i v w' → K ((putAll a ops.toList u 0).put o.dst v) w') →
      if Region.wanted o (yielded ops (putAll a ops.toList u 0).tmps) then o.wp P (putAll a ops.toList u 0) w K Q else K ((putAll a ops.toList u 0).put o.dst undef) w) 0 ops.toList)
    (hQ : ∀ u w', C true w' → (∀ i, i < ops.size → Fact i (u i) w') → Q .normal (putAll a ops.toList u 0) w') : (Code.region id ops true).wp P Q a w := by
  simp only [Bool.and_eq_true, decide_eq_true_eq] at hB
  obtain ⟨⟨hb, hap⟩, hs⟩ := hB
  obtain ⟨u0, hu0, _⟩ := putAll_self2 ops.toList a 0 hap
  have main : (Code.region id ops true).wp P Q (putAll a ops.toList u0 0) w := by
    refine wp_region_any hm (wpAny_once hb (fun listed a' w => listed.size = ops.size ∧ (∀ i o, ops[i]? = some o → listed.getD i false = true → ∀ j, waits o j = true → listed.getD j false = true) ∧ C (listed.getD s false) w ∧ ∃ u, a' = putAll a ops.toList u 0 ∧ ∀ i, listed.getD i false = true → Fact i (u i) w) ?_ ?_ ops.size _ _ _ ?_ ⟨by simp, ?_, ?_, u0, rfl, ?_⟩)
    · rintro listed a' w i o ⟨hsz, hdc, hCw, u, rfl, hf⟩ hn ho hw
      have hlt : i < ops.size := (Array.getElem?_eq_some_iff.1 ho).1
      have hni : listed.getD i false = false := by
        have hil : i < listed.size := by omega
        simp only [Array.getD, hil, dif_pos] at hn ⊢
        exact hn
      have h := allOps_at ops.toList 0 hops i o (by simpa using ho)
      rw [Nat.zero_add] at h
      have hbf : (reachB ops f s i || decide (i = s)) = true → listed.getD s false = false := by
        intro hr
        cases hls : listed.getD s false with
        | false => rfl
        | true =>
          exfalso
          simp only [Bool.or_eq_true, decide_eq_true_eq] at hr
          rcases hr with hr | hr
          · have hos : ops[s]? = some ops[s] := Array.getElem?_eq_getElem hs
            have := reach_listed hdc f s i _ hos (hdc s _ hos hls) hr
            rw [hni] at this
            cases this
          · rw [hr, hls] at hni
            cases hni
      have hK := h u w (listed.getD s false) hCw hbf (fun j hj => hf j (hw j hj)) (fun a' w' => (listed.setIfInBounds i true).size = ops.size ∧ (∀ k o, ops[k]? = some o → (listed.setIfInBounds i true).getD k false = true → ∀ j, waits o j = true → (listed.setIfInBounds i true).getD j false = true) ∧ C ((listed.setIfInBounds i true).getD s false) w' ∧ ∃ u, a' = putAll a ops.toList u 0 ∧ ∀ k, (listed.setIfInBounds i true).getD k false = true → Fact k (u k) w') (fun v w' hR hCn hv => by
        refine ⟨by simpa using hsz, ?_, ?_, upd u i v, ?_, fun k hk => ?_⟩
        · intro x o' ho' hx j hj
          by_cases hxi : i = x
          · subst hxi
            rw [ho] at ho'
            cases ho'
            exact getD_set_true (hw j hj)
          · rw [getD_set_ne false hxi] at hx
            exact getD_set_true (hdc x o' ho' hx j hj)
        · by_cases his : i = s
          · subst his
            have e : (listed.setIfInBounds i true).getD i false = true := by
              have hil : i < listed.size := by omega
              simp [Array.getD, hil]
            rw [e]
            simpa using hCn
          · rw [getD_set_ne false his]
            simpa [his] using hCn
        · exact putAll_upd2 ops.toList a u 0 i o v hap (by simpa using ho) |>.trans (by rw [Nat.zero_add])
        · unfold upd
          by_cases hki : k = i
          · subst hki
            rw [if_pos rfl]
            exact hv
          · rw [if_neg hki]
            refine hFR _ _ _ _ (hf k ?_) hR
            rwa [getD_set_ne false (Ne.symm hki)] at hk)
      unfold wpOp
      simp only [ho]
      split
      · rename_i hwt
        rw [if_pos hwt] at hK
        exact .inl hK
      · rename_i hwt
        rw [if_neg hwt] at hK
        exact hK
    · rintro listed a' w ⟨hsz, _, hCw, u, rfl, hf⟩ hall
      have hl : ∀ i, i < ops.size → listed.getD i false = true := fun i hi => by
        have := hall i hi
        have hlt : i < listed.size := by omega
        simp only [Array.getD, hlt, dif_pos] at this ⊢
        exact this
      rw [hl s hs] at hCw
      exact hQ u w hCw (fun i hi => hf i (hl i hi))
    · simp
    · intro i o _ hi
      exfalso
      rcases Nat.lt_or_ge i ops.size with h | h
      · simp [Array.getD, h] at hi
      · simp [Array.getD, Nat.not_lt.2 h] at hi
    · have e : (Array.replicate ops.size false).getD s false = false := by simp [Array.getD, hs]
      rw [e]
      exact hC
    · intro i hi
      exfalso
      rcases Nat.lt_or_ge i ops.size with h | h
      · simp [Array.getD, h] at hi
      · simp [Array.getD, Nat.not_lt.2 h] at hi
  rw [hu0] at main
  exact main
end
end Go.Proofs.YtojbddcbnnbklaaGreatDoor
namespace Go.Proofs.YtojbddcbnnbklaaGreatDoor
open Go.RowKit P43
attribute [local go_sem] ByteArray.mk_append_mk ByteArray.extract_mk mk_index

theorem OwnR.base {w : World} {B C : Nat} {e : TypeId} {v : Value} {ls : List Om} (h : OwnR w B e v ls) (hc : C ≤ B) : OwnR w C e v ls := World.ownsRow.mono h hc
theorem butR_fst (o : Int) (l : List Om) : (butR o l).map (·.1) = P43.drop (l.map (·.1)) o := by
  unfold butR P43.drop
  rw [List.filter_map]
  rfl
theorem but_mem {o : Int} {hs ws : List Om} {x : Om} (h : x ∈ butR o hs ++ butR o ws) : x ∈ hs ++ ws := by
  rcases List.mem_append.1 h with h | h
  · exact List.mem_append_left _ (List.mem_filter.1 h).1
  · exact List.mem_append_right _ (List.mem_filter.1 h).1
theorem inR_true {t : T} {hs ws : List Om} {o : Int} (hR : RT ⟨hs.map (·.1), ws.map (·.1)⟩ t) {x : Om} (hx : x ∈ hs ++ ws) (hid : x.1.id = o) : inT t o = true := by
  rw [← hR.inT]
  unfold inT
  rw [decide_eq_true_eq, ← hid]
  refine mem_ids ?_
  rw [← List.map_append]
  exact List.mem_map.2 ⟨x, hx, rfl⟩
theorem inR_false {t : T} {hs ws : List Om} {o : Int} (hR : RT ⟨hs.map (·.1), ws.map (·.1)⟩ t) (h1 : ∀ x ∈ hs, ¬ x.1.id = o) (h2 : ∀ x ∈ ws, ¬ x.1.id = o) : inT t o = false := by
  rw [← hR.inT]
  unfold inT
  rw [decide_eq_false_iff_not]
  intro h
  obtain ⟨c, hc, e⟩ := List.mem_map.1 h
  simp only at hc
  rw [← List.map_append] at hc
  obtain ⟨x, hx, rfl⟩ := List.mem_map.1 hc
  rcases List.mem_append.1 hx with hx | hx
  · exact h1 x hx e
  · exact h2 x hx e
theorem LkRes.slices {w : World} {a b : Value} {l : List Om} {t : T} (h : LkRes w a b l t) : ∃ A n c B m d, a = .slice A n c ∧ b = .slice B m d := by
  obtain ⟨hs, ws, ⟨A, n, c, e1, _⟩, ⟨B, m, d, e2, _⟩, _⟩ := h
  exact ⟨A, n, c, B, m, d, e1, e2⟩
theorem LkRes.rtt {w : World} {a b : Value} {l : List Om} {t : T} (h : LkRes w a b l t) (hW : ∀ x ∈ l, WishAt w x ∧ WishT w x) : RTT w a b t := by
  obtain ⟨hs, ws, h1, h2, h3, h4⟩ := h
  exact ⟨hs, ws, h1, h2, fun x hx => hW x (h3 x hx), h4⟩
theorem LkRes.below {w w' : World} {a b : Value} {l : List Om} {t : T} (h : LkRes w a b l t) (hb : Below w.heap.size w w') : LkRes w' a b l t := by
  obtain ⟨hs, ws, h1, h2, h3, h4⟩ := h
  exact ⟨hs, ws, h1.below hb, h2.below hb, h3, h4⟩
theorem LkRes.more {w : World} {a b : Value} {l m : List Om} {t : T} (h : LkRes w a b l t) (hl : ∀ x ∈ l, x ∈ m) : LkRes w a b m t := by
  obtain ⟨hs, ws, h1, h2, h3, h4⟩ := h
  exact ⟨hs, ws, h1, h2, fun x hx => hl x (h3 x hx), h4⟩
/-- Two rows of the call's own. -/
def TwoR (w : World) (B : Nat) (l m : List Om) (v : Value) : Prop := ∃ a b, v = .agg #[a, b] ∧ OwnR w B tW a l ∧ OwnR w B tW b m
theorem TwoR.below {w w' : World} {B : Nat} {l m : List Om} {v : Value} (h : TwoR w B l m v) (hb : Below w.heap.size w w') : TwoR w' B l m v := by
  obtain ⟨a, b, e, h1, h2⟩ := h
  exact ⟨a, b, e, h1.below hb, h2.below hb⟩
/-- What look answers at t. -/
def LookV (w : World) (B : Nat) (l : List Om) (t : T) (v : Value) : Prop := ∃ a b vo, v = .tuple #[.agg #[a, b], vo] ∧ LkRes w a b l (P43.look t).1 ∧ OwnI w B vo (P43.look t).2
theorem LookV.below {w w' : World} {B : Nat} {l : List Om} {t : T} {v : Value} (h : LookV w B l t v) (hb : Below w.heap.size w w') : LookV w' B l t v := by
  obtain ⟨a, b, vo, e, h1, h2⟩ := h
  exact ⟨a, b, vo, e, h1.below hb, h2.below hb⟩
def LookA (w : World) (l : List Om) (t : T) (v : Value) : Prop := ∃ a b, v = .agg #[a, b] ∧ LkRes w a b l (P43.look t).1
theorem LookA.below {w w' : World} {l : List Om} {t : T} {v : Value} (h : LookA w l t v) (hb : Below w.heap.size w w') : LookA w' l t v := by
  obtain ⟨a, b, e, h1⟩ := h
  exact ⟨a, b, e, h1.below hb⟩
/-- What a step on the way keeps: every block of cells that is no table's. -/
structure Kp (w w' : World) : Prop where
  size : w.heap.size ≤ w'.heap.size
  blk : ∀ k t cs, Blk w k t cs → t ≠ tTb → Blk w' k t cs
theorem Kp.same (w : World) : Kp w w := ⟨Nat.le_refl _, fun _ _ _ h _ => h⟩
theorem Kp.of_below {w w' : World} (hb : Below w.heap.size w w') : Kp w w' := ⟨hb.size, fun _ _ _ h _ => h.below hb⟩
theorem Kp.store {w : World} {p : Nat} {cs : Array Value} (hp : Blk w p tTb cs) (a b : Value) : Kp w ((w.setCell ⟨p, 0, none⟩ a).setCell ⟨p, 1, none⟩ b) :=
  ⟨by simp, fun k t cs' h ht => (h.setFar (q := ⟨p, 0, none⟩) (Blk.ne h hp ht) a).setFar (q := ⟨p, 1, none⟩) (Blk.ne h hp ht) b⟩
theorem OwnR.kp {w w' : World} {B : Nat} {v : Value} {ls : List Om} (h : OwnR w B tW v ls) (k : Kp w w') : OwnR w' B tW v ls := by
  refine ⟨h.1, ?_⟩
  rcases h.2 with h1 | ⟨g, cap, cur, rfl, a2, a3, a4⟩
  · exact .inl h1
  · exact .inr ⟨g, cap, cur, rfl, a2, k.blk g tW cur a3 (by decide), a4⟩
theorem OwnI.kp {w w' : World} {B : Nat} {v : Value} {xs : List Int} (h : OwnI w B v xs) (k : Kp w w') : OwnI w' B v xs := by
  refine ⟨h.1, ?_⟩
  rcases h.2 with h1 | ⟨g, cap, cur, rfl, a2, a3, a4⟩
  · exact .inl h1
  · exact .inr ⟨g, cap, cur, rfl, a2, k.blk g 3 cur a3 (by decide), a4⟩
theorem RsO.kp {w w' : World} {v : Value} {ls : List Om} (h : RsO w v ls) (k : Kp w w') : RsO w' v ls := by
  obtain ⟨A, n, c, rfl, h1, h2, h3⟩ := h
  refine ⟨A, n, c, rfl, ⟨h1.1, fun j u hj => ?_⟩, h2, fun b off e => ?_⟩
  · obtain ⟨b, off, e, h4⟩ := h1.2 j u hj
    refine ⟨b, off, e, ?_⟩
    obtain ⟨cs, h5⟩ := h3 b off e
    have h6 := k.blk b tW cs h5 (by decide)
    unfold Blk at h5 h6
    unfold World.cell? at h4 ⊢
    simp only at h4 ⊢
    rw [h6]
    rw [h5] at h4
    exact h4
  · obtain ⟨cs, h5⟩ := h3 b off e
    exact ⟨cs, k.blk b tW cs h5 (by decide)⟩
theorem LkRes.kp {w w' : World} {a b : Value} {l : List Om} {t : T} (h : LkRes w a b l t) (k : Kp w w') : LkRes w' a b l t := by
  obtain ⟨hs, ws, h1, h2, h3, h4⟩ := h
  exact ⟨hs, ws, h1.kp k, h2.kp k, h3, h4⟩
theorem TwoR.kp {w w' : World} {B : Nat} {l m : List Om} {v : Value} (h : TwoR w B l m v) (k : Kp w w') : TwoR w' B l m v := by
  obtain ⟨a, b, e, h1, h2⟩ := h
  exact ⟨a, b, e, h1.kp k, h2.kp k⟩
theorem LookV.kp {w w' : World} {B : Nat} {l : List Om} {t : T} {v : Value} (h : LookV w B l t v) (k : Kp w w') : LookV w' B l t v := by
  obtain ⟨a, b, vo, e, h1, h2⟩ := h
  exact ⟨a, b, vo, e, h1.kp k, h2.kp k⟩
theorem LookA.kp {w w' : World} {l : List Om} {t : T} {v : Value} (h : LookA w l t v) (k : Kp w w') : LookA w' l t v := by
  obtain ⟨a, b, e, h1⟩ := h
  exact ⟨a, b, e, h1.kp k⟩
/-- The table's box holds look's answer. -/
def Boxed (w w1 : World) (p r : Nat) (l : List Om) (t : T) : Prop := ∃ a b, Blk w1 p tTb #[a, b] ∧ Blk w1 r tTb #[.slice none 0 0, .slice none 0 0] ∧ LkRes w1 a b l (P43.look t).1 ∧ Below w.heap.size w w1
/-- The answer is written into the result's box. -/
theorem tab_end2 {w w5 : World} {r : Nat} {a b : Value} {t : T} {ds : Array Value} {vo : Value} {outs : List Int} (hr : Blk w5 r tTb ds) (hr0 : w.heap.size ≤ r) (h : RTT w5 a b t) (ho : OwnI w5 w.heap.size vo outs) (hb : Below w.heap.size w w5) :
    RTT ((w5.setCell ⟨r, 0, none⟩ a).setCell ⟨r, 1, none⟩ b) a b t ∧ OwnI ((w5.setCell ⟨r, 0, none⟩ a).setCell ⟨r, 1, none⟩ b) w.heap.size vo outs ∧ Below w.heap.size w ((w5.setCell ⟨r, 0, none⟩ a).setCell ⟨r, 1, none⟩ b) := by
  have r1 := hr.put 0 a
  refine ⟨(h.setCell (q := ⟨r, 0, none⟩) hr (by decide) (by decide) a).setCell (q := ⟨r, 1, none⟩) r1 (by decide) (by decide) b, ?_, (hb.setCell (p := ⟨r, 0, none⟩) hr0 a).setCell (p := ⟨r, 1, none⟩) hr0 b⟩
  have n2 := ho.neB hr (by decide)
  exact (ho.setC (q := ⟨r, 0, none⟩) n2 a).setC (q := ⟨r, 1, none⟩) n2 b
/-- The table goes back as it came. -/
theorem tab_same {w w5 : World} {r : Nat} {a b : Value} {t : T} (hr0 : w.heap.size ≤ r) (h : RTT w a b t) (hb : Below w.heap.size w w5) :
    RTT ((w5.setCell ⟨r, 0, none⟩ a).setCell ⟨r, 1, none⟩ b) a b t ∧ Below w.heap.size w ((w5.setCell ⟨r, 0, none⟩ a).setCell ⟨r, 1, none⟩ b) := by
  have h1 := (hb.setCell (p := ⟨r, 0, none⟩) hr0 a).setCell (p := ⟨r, 1, none⟩) hr0 b
  exact ⟨h.below h1, h1⟩
set_option maxRecDepth 100000 in
set_option maxHeartbeats 16000000 in
theorem refRelease (v1 v2 : Value) (t : T) (o : Int) (w : World) (h : RTT w v1 v2 t) (hn : t.hs.length + t.ws.length ≤ 90000) :
    Calls Tryz.prog 9 #[.agg #[v1, v2], .int .i64 o] w fun e w' => ∃ a b vo, e = .returned (.tuple #[.agg #[a, b], vo, .int .i64 (releaseP t o).2.2]) ∧ RTT w' a b (releaseP t o).1 ∧ OwnI w' w.heap.size vo (releaseP t o).2.1 ∧ Below w.heap.size w w' := by
  have H := Lib.hid h
  obtain ⟨hs, ws, ⟨A1, n1, c1, rfl, hh1, hh2, hh3⟩, ⟨A2, n2, c2, rfl, hw1, hw2, hw3⟩, hW, hR⟩ := id h
  have HR := Lib.hid hR
  have HWI := Lib.hid hW
  have HH1 := Lib.hid hh1
  have HW1 := Lib.hid hw1
  have HLN := Lib.hid (show hs.length + ws.length ≤ 90000 from by
    have h1 := hR.perm.length_eq
    have h2 := congrArg List.length hR.wait
    simp only [List.length_map] at h1 h2
    omega)
  have hl1 := hh1.len
  have hl2 := hw1.len
  have hl90 : n1 + n2 ≤ 90000 := by have := HLN.out; omega
  have hlenT : (Tryz.prog.info? tTb).map (·.size) = some 2 := by kernel_rfl
  clear h hn hh1 hh2 hh3 hw1 hw2 hw3 hW hR
  go_enter Tryz.func9, Tryz.ntmps9
  go_upto_region 1 with (fail)
  obtain ⟨w1, p, r, e1, e2, e3, hb1, h1, h2⟩ := boxes2 w tTb #[.slice A1 n1 c1, .slice A2 n2 c2] #[.slice none 0 0, .slice none 0 0]
  rw [e1, e3, e2]
  have hp0 : w.heap.size ≤ p := by omega
  have hr0 : w.heap.size ≤ r := by omega
  have hpr : r ≠ p := by omega
  have HB1 := Lib.hid hb1
  have HS1 := Lib.hid h1
  have HR1 := Lib.hid h2
  have hz1 := hb1.size
  clear e1 e2 e3 hb1 h1 h2
  have z0 := HS1.out.cell 0
  have z1 := HS1.out.cell 1
  simp at z0 z1
  rcases rIdx_first o hs with ⟨hi, hno⟩ | ⟨k, x, hi, hx, hid, -⟩
  · rcases rIdx_first o ws with ⟨hi2, hno2⟩ | ⟨k, x, hi2, hx, hid, -⟩
    · have HI := Lib.hid hi
      have HI2 := Lib.hid hi2
      have HINT := Lib.hid (inR_false HR.out hno hno2)
      have HREL := Lib.hid (show releaseP t o = (t, [], 6) from by unfold releaseP; rw [HINT.out]; rfl)
      clear hi hi2 hno hno2
      go_upto_region 2 with (first | (go_at_call 27; refine (refIndex A2 n2 c2 o ws w3 (HW1.out.below HB3.out) (by omega)).mono ?_; rintro e w4 ⟨rfl, hb4⟩; rw [HI2.out]; have HB4' := Lib.hid hb4; clear hb4) | (go_at_call 27; refine (refIndex A1 n1 c1 o hs w1 (HH1.out.below HB1.out) (by omega)).mono ?_; rintro e w3 ⟨rfl, hb3⟩; rw [HI.out]; have HB3' := Lib.hid hb3; have HB3 := Lib.hid (HB1.out.trans (hb3.mono hz1)); have z1 := (HS1.out.below hb3).cell 1; simp at z1; clear hb3))
      have HB4 := Lib.hid (HB3.out.trans (HB4'.out.mono HB3.out.size))
      have HS4 := Lib.hid ((HS1.out.below HB3'.out).below HB4'.out)
      have HR4 := Lib.hid ((HR1.out.below HB3'.out).below HB4'.out)
      clear z0 z1 HB3' HB4' HB3
      have HPL := Lib.hid (show ∀ (j : Nat) (u : Value), (#[.slice A1 n1 c1, .slice A2 n2 c2] : Array Value)[j]? = some u → w4.cell? ((⟨p, 0, none⟩ : Addr).add j) = some u from HS4.out.add)
      have hcr0 := HR4.out.cell 0
      have hcr1 := HR4.out.cell 1
      simp at hcr0 hcr1
      have hfr0 := HR4.out.frozen 0
      have hfr1 := HR4.out.frozen 1
      have hrl := HR4.out.lt
      go_wp2_with (refine wpList_load_cells rfl tTb (.tmp 2) rfl ⟨p, 0, none⟩ rfl _ _ HPL.out Tryz.underlying29 rfl hlenT ?_)
      have HE := Lib.hid (tab_same hr0 H.out HB4.out)
      rw [HREL.out]
      exact bodyPost_ret (v := .tuple #[.agg #[.slice A1 n1 c1, .slice A2 n2 c2], .slice none 0 0, .int .i64 6]) (by simp [results, Tryz.results9, go_sem, hcr0, hcr1]) rfl ⟨_, _, _, rfl, HE.out.1, OwnI.nil _ _, HE.out.2⟩
    · have HI := Lib.hid hi
      have HI2 := Lib.hid hi2
      have HINT := Lib.hid (inR_true HR.out (List.mem_append_right _ (List.mem_of_getElem? hx)) hid)
      have hkk : ¬ (k : Int) < 0 := by omega
      clear hi hi2 hno hx hid
      go_upto_region 3 with (first | (go_at_call 27; refine (refIndex A2 n2 c2 o ws w3 (HW1.out.below HB3.out) (by omega)).mono ?_; rintro e w4 ⟨rfl, hb4⟩; rw [HI2.out]; have HB4' := Lib.hid hb4; clear hb4) | (go_at_call 27; refine (refIndex A1 n1 c1 o hs w1 (HH1.out.below HB1.out) (by omega)).mono ?_; rintro e w3 ⟨rfl, hb3⟩; rw [HI.out]; have HB3' := Lib.hid hb3; have HB3 := Lib.hid (HB1.out.trans (hb3.mono hz1)); have z1 := (HS1.out.below hb3).cell 1; simp at z1; clear hb3))
      have HB4 := Lib.hid (HB3.out.trans (HB4'.out.mono HB3.out.size))
      have HS4 := Lib.hid ((HS1.out.below HB3'.out).below HB4'.out)
      have HR4 := Lib.hid ((HR1.out.below HB3'.out).below HB4'.out)
      clear z0 z1 HB3' HB4' HB3
      have HHw := Lib.hid (HH1.out.below HB4.out)
      have HQw := Lib.hid (HW1.out.below HB4.out)
      have hc0 := HS4.out.cell 0
      have hc1 := HS4.out.cell 1
      simp at hc0 hc1
      have HC0 := Lib.hid hc0
      have HC1 := Lib.hid hc1
      clear hc0 hc1
      have HREL := Lib.hid (show releaseP t o = ((P43.look ⟨P43.drop t.hs o, P43.drop t.ws o⟩).1, (P43.look ⟨P43.drop t.hs o, P43.drop t.ws o⟩).2, 0) from by unfold releaseP; rw [HINT.out, if_pos rfl]; rfl)
      refine wp_region_once 15 13 (by kernel_rfl) (by kernel_rfl) (Kp) (fun b w1 => match b with
          | false => RowKit.Below w4.heap.size w4 w1
          | true => Boxed w w1 p r (hs ++ ws) ⟨P43.drop t.hs o, P43.drop t.ws o⟩)
        (fun i v w1 => match i with
          | 0 => v = .pointer (some ⟨p, 0, none⟩)
          | 1 => v = .slice A1 n1 c1
          | 2 => v = .int .i64 o
          | 3 => OwnR w1 w4.heap.size tW v (butR o hs)
          | 4 => v = .pointer (some ⟨p, 1, none⟩)
          | 5 => v = .slice A2 n2 c2
          | 6 => v = .int .i64 o
          | 7 => OwnR w1 w4.heap.size tW v (butR o ws)
          | 8 => TwoR w1 w4.heap.size (butR o hs) (butR o ws) v
          | 9 => LookV w1 w4.heap.size (hs ++ ws) ⟨P43.drop t.hs o, P43.drop t.ws o⟩ v
          | 10 => LookV w1 w4.heap.size (hs ++ ws) ⟨P43.drop t.hs o, P43.drop t.ws o⟩ v
          | 11 => LookA w1 (hs ++ ws) ⟨P43.drop t.hs o, P43.drop t.ws o⟩ v
          | 12 => OwnI w1 w4.heap.size v (P43.look ⟨P43.drop t.hs o, P43.drop t.ws o⟩).2
          | 14 => OwnI w1 w4.heap.size v (P43.look ⟨P43.drop t.hs o, P43.drop t.ws o⟩).2
          | _ => True) ?_ ((RowKit.Below.refl _ _).drew) ?_ ?_
      · intro ii vv w1 w2 hf hR
        match ii, hf with
        | 0, hf => exact hf
        | 1, hf => exact hf
        | 2, hf => exact hf
        | 3, hf => exact OwnR.kp hf hR
        | 4, hf => exact hf
        | 5, hf => exact hf
        | 6, hf => exact hf
        | 7, hf => exact OwnR.kp hf hR
        | 8, hf => exact TwoR.kp hf hR
        | 9, hf => exact LookV.kp hf hR
        | 10, hf => exact LookV.kp hf hR
        | 11, hf => exact LookA.kp hf hR
        | 12, hf => exact OwnI.kp hf hR
        | 13, _ => trivial
        | 14, hf => exact OwnI.kp hf hR
        | n + 15, _ => trivial
      · simp only [putAll, Act.put, List.setIfInBounds_toArray, List.set_cons_succ, List.set_cons_zero, Nat.zero_add, Nat.reduceAdd]
        refine allOps_cons ?_ (allOps_cons ?_ (allOps_cons ?_ (allOps_cons ?_ (allOps_cons ?_ (allOps_cons ?_ (allOps_cons ?_ (allOps_cons ?_ (allOps_cons ?_ (allOps_cons ?_ (allOps_cons ?_ (allOps_cons ?_ (allOps_cons ?_ (allOps_cons ?_ (allOps_cons ?_ allOps_nil))))))))))))))
        · intro u w1 b hC hbs hd K hK
          obtain rfl : b = false := hbs (by kernel_rfl)
          simp only [List.set_cons_succ, List.set_cons_zero] at hK ⊢
          go_simp
          exact hK _ _ (Kp.same _) hC rfl
        · intro u w1 b hC hbs hd K hK
          obtain rfl : b = false := hbs (by kernel_rfl)
          have h0 : u 0 = .pointer (some ⟨p, 0, none⟩) := hd 0 rfl
          have hc1 : w1.cell? ⟨p, 0, none⟩ = some (.slice A1 n1 c1) := by rw [(show RowKit.Below w4.heap.size w4 w1 from hC).cell (p := ⟨p, 0, none⟩) (World.block_lt_of_cell? w4 _ HC0.out)]; exact HC0.out
          simp only [List.set_cons_succ, List.set_cons_zero, h0] at hK ⊢
          go_simp
          exact hK _ _ (Kp.same _) hC rfl
        · intro u w1 b hC hbs hd K hK
          obtain rfl : b = false := hbs (by kernel_rfl)
          simp only [List.set_cons_succ, List.set_cons_zero] at hK ⊢
          go_simp
          exact hK _ _ (Kp.same _) hC rfl
        · intro u w1 b hC hbs hd K hK
          obtain rfl : b = false := hbs (by kernel_rfl)
          have h1 : u 1 = .slice A1 n1 c1 := hd 1 rfl
          have h2 : u 2 = .int .i64 o := hd 2 rfl
          have hC : RowKit.Below w4.heap.size w4 w1 := hC
          simp only [List.set_cons_succ, List.set_cons_zero, h1, h2] at hK ⊢
          rw [if_pos (show Region.wanted _ _ = true from rfl)]
          go_simp
          refine (refWithout A1 n1 c1 o hs w1 (HHw.out.below hC) (by omega)).mono ?_
          rintro e w' ⟨v, rfl, ho, hb⟩
          exact hK v w' (.of_below hb) (hC.trans (hb.mono hC.size)) (ho.base hC.size)
        · intro u w1 b hC hbs hd K hK
          obtain rfl : b = false := hbs (by kernel_rfl)
          simp only [List.set_cons_succ, List.set_cons_zero] at hK ⊢
          go_simp
          exact hK _ _ (Kp.same _) hC rfl
        · intro u w1 b hC hbs hd K hK
          obtain rfl : b = false := hbs (by kernel_rfl)
          have h4 : u 4 = .pointer (some ⟨p, 1, none⟩) := hd 4 rfl
          have hc1 : w1.cell? ⟨p, 1, none⟩ = some (.slice A2 n2 c2) := by rw [(show RowKit.Below w4.heap.size w4 w1 from hC).cell (p := ⟨p, 1, none⟩) (World.block_lt_of_cell? w4 _ HC1.out)]; exact HC1.out
          simp only [List.set_cons_succ, List.set_cons_zero, h4] at hK ⊢
          go_simp
          exact hK _ _ (Kp.same _) hC rfl
        · intro u w1 b hC hbs hd K hK
          obtain rfl : b = false := hbs (by kernel_rfl)
          simp only [List.set_cons_succ, List.set_cons_zero] at hK ⊢
          go_simp
          exact hK _ _ (Kp.same _) hC rfl
        · intro u w1 b hC hbs hd K hK
          obtain rfl : b = false := hbs (by kernel_rfl)
          have h5 : u 5 = .slice A2 n2 c2 := hd 5 rfl
          have h6 : u 6 = .int .i64 o := hd 6 rfl
          have hC : RowKit.Below w4.heap.size w4 w1 := hC
          simp only [List.set_cons_succ, List.set_cons_zero, h5, h6] at hK ⊢
          rw [if_pos (show Region.wanted _ _ = true from rfl)]
          go_simp
          refine (refWithout A2 n2 c2 o ws w1 (HQw.out.below hC) (by omega)).mono ?_
          rintro e w' ⟨v, rfl, ho, hb⟩
          exact hK v w' (.of_below hb) (hC.trans (hb.mono hC.size)) (ho.base hC.size)
        · intro u w1 b hC hbs hd K hK
          obtain rfl : b = false := hbs (by kernel_rfl)
          have h3 : OwnR w1 w4.heap.size tW (u 3) (butR o hs) := hd 3 rfl
          have h7 : OwnR w1 w4.heap.size tW (u 7) (butR o ws) := hd 7 rfl
          obtain ⟨A3, c3, e3, -, -⟩ := h3.cap
          obtain ⟨A7, c7, e7, -, -⟩ := h7.cap
          simp only [e3, e7] at hK ⊢
          simp only [List.set_cons_succ, List.set_cons_zero] at hK ⊢
          go_simp
          rw [e3] at h3
          rw [e7] at h7
          exact hK _ _ (Kp.same _) hC ⟨_, _, rfl, h3, h7⟩
        · intro u w1 b hC hbs hd K hK
          obtain rfl : b = false := hbs (by kernel_rfl)
          have hC : RowKit.Below w4.heap.size w4 w1 := hC
          obtain ⟨a8, b8, h8, h8a, h8b⟩ : TwoR w1 w4.heap.size (butR o hs) (butR o ws) (u 8) := hd 8 rfl
          simp only [h8] at hK ⊢
          simp only [List.set_cons_succ, List.set_cons_zero] at hK ⊢
          rw [if_pos (show Region.wanted _ _ = true from rfl)]
          go_simp
          refine (refLook a8 b8 ⟨P43.drop t.hs o, P43.drop t.ws o⟩ (butR o hs) (butR o ws) w1 (.own h8a) (.own h8b) (fun x hx => ((HWI.out x (but_mem hx)).1.below HB4.out).below hC) (by rw [butR_fst, butR_fst]; exact HR.out.drop o) (by have h1 := List.length_filter_le (fun x : Om => decide (x.1.id ≠ o)) hs; have h2 := List.length_filter_le (fun x : Om => decide (x.1.id ≠ o)) ws; have h3 := HLN.out; unfold butR; omega)).mono ?_
          rintro e w' ⟨va, vb, vo, rfl, hlr, hov, hb5⟩
          exact hK _ w' (.of_below hb5) (hC.trans (hb5.mono hC.size)) ⟨va, vb, vo, rfl, hlr.more (fun x hx => but_mem hx), hov.base hC.size⟩
        · intro u w1 b hC hbs hd K hK
          obtain rfl : b = false := hbs (by kernel_rfl)
          have h9 : LookV w1 w4.heap.size (hs ++ ws) ⟨P43.drop t.hs o, P43.drop t.ws o⟩ (u 9) := hd 9 rfl
          simp only [List.set_cons_succ, List.set_cons_zero] at hK ⊢
          go_simp
          exact hK _ _ (Kp.same _) hC h9
        · intro u w1 b hC hbs hd K hK
          obtain rfl : b = false := hbs (by kernel_rfl)
          obtain ⟨va, vb, vo, h10, hlr, hov⟩ : LookV w1 w4.heap.size (hs ++ ws) ⟨P43.drop t.hs o, P43.drop t.ws o⟩ (u 10) := hd 10 rfl
          simp only [h10] at hK ⊢
          simp only [List.set_cons_succ, List.set_cons_zero] at hK ⊢
          go_simp
          exact hK _ _ (Kp.same _) hC ⟨va, vb, rfl, hlr⟩
        · intro u w1 b hC hbs hd K hK
          obtain ⟨va, vb, vo, h10, hlr, hov⟩ : LookV w1 w4.heap.size (hs ++ ws) ⟨P43.drop t.hs o, P43.drop t.ws o⟩ (u 10) := hd 10 rfl
          simp only [h10] at hK ⊢
          simp only [List.set_cons_succ, List.set_cons_zero] at hK ⊢
          go_simp
          exact hK _ _ (Kp.same _) (by cases b <;> exact hC) hov
        · intro u w1 b hC hbs hd K hK
          obtain rfl : b = false := hbs (by kernel_rfl)
          have hC : RowKit.Below w4.heap.size w4 w1 := hC
          obtain ⟨va, vb, h11, hlr⟩ : LookA w1 (hs ++ ws) ⟨P43.drop t.hs o, P43.drop t.ws o⟩ (u 11) := hd 11 rfl
          obtain ⟨Aa, na, ca, Ab, nb, cb, hva, hvb⟩ := hlr.slices
          subst hva hvb
          have HSp := HS4.out.below hC
          have HRr := HR4.out.below hC
          have hc0 := HSp.cell 0
          have hc1 := HSp.cell 1
          have hf0 := HSp.frozen 0
          have hf1 := HSp.frozen 1
          have hlp := HSp.lt
          simp at hc0 hc1
          skip
          simp only [h11] at hK ⊢
          go_simp
          refine hK undef _ (Kp.store HSp _ _) ⟨_, _, by simpa using (HSp.put 0 (.slice Aa na ca)).put 1 (.slice Ab nb cb), (HRr.far (p := ⟨p, 0, none⟩) hpr (.slice Aa na ca)).far (p := ⟨p, 1, none⟩) hpr (.slice Ab nb cb), hlr.kp (Kp.store HSp _ _), ?_⟩ trivial
          exact ((HB4.out.trans (hC.mono HB4.out.size)).setCell (p := ⟨p, 0, none⟩) hp0 _).setCell (p := ⟨p, 1, none⟩) hp0 _
        · intro u w1 b hC hbs hd K hK
          have h12 : OwnI w1 w4.heap.size (u 12) (P43.look ⟨P43.drop t.hs o, P43.drop t.ws o⟩).2 := hd 12 rfl
          simp only [List.set_cons_succ, List.set_cons_zero] at hK ⊢
          go_simp
          exact hK _ _ (Kp.same _) (by cases b <;> exact hC) h12
      · intro u wt hC hf
        obtain ⟨va, vb, hbp, hbr, hlr, hlow⟩ : Boxed w wt p r (hs ++ ws) ⟨P43.drop t.hs o, P43.drop t.ws o⟩ := hC
        have h14 : OwnI wt w4.heap.size (u 14) (P43.look ⟨P43.drop t.hs o, P43.drop t.ws o⟩).2 := hf 14 (by decide)
        simp only [putAll, Act.put, List.setIfInBounds_toArray, List.set_cons_succ, List.set_cons_zero, Nat.zero_add, Nat.reduceAdd]
        obtain ⟨Aa, na, ca, Ab, nb, cb, hva, hvb⟩ := hlr.slices
        subst hva hvb
        have HV5 := Lib.hid (h14.base HB4.out.size)
        have HSp := Lib.hid hbp
        have HRr := Lib.hid hbr
        have HBe := Lib.hid hlow
        have HTR := Lib.hid (hlr.rtt (fun x hx => ⟨(HWI.out x hx).1.below hlow, (HWI.out x hx).2.below hlow⟩))
        obtain ⟨vo, hvo⟩ : ∃ vo, u 14 = vo := ⟨_, rfl⟩
        rw [hvo] at HV5 ⊢
        clear hlr h14 hf hvo hbp hbr hlow
        have HE := Lib.hid (tab_end2 HRr.out hr0 HTR.out HV5.out HBe.out)
        have hcr0 := HRr.out.cell 0
        have hcr1 := HRr.out.cell 1
        have hfr0 := HRr.out.frozen 0
        have hfr1 := HRr.out.frozen 1
        have hrl := HRr.out.lt
        have HPL := Lib.hid (show ∀ (j : Nat) (u : Value), (#[.slice Aa na ca, .slice Ab nb cb] : Array Value)[j]? = some u → wt.cell? ((⟨p, 0, none⟩ : Addr).add j) = some u from HSp.out.add)
        simp at hcr0 hcr1
        go_wp2_with (refine wpList_load_cells rfl tTb (.tmp 2) rfl ⟨p, 0, none⟩ rfl _ _ HPL.out Tryz.underlying29 rfl hlenT ?_)
        rw [HREL.out]
        exact bodyPost_ret (v := .tuple #[.agg #[.slice Aa na ca, .slice Ab nb cb], vo, .int .i64 0]) (by simp [results, Tryz.results9, go_sem, hcr0, hcr1]) rfl ⟨_, _, _, rfl, HE.out.1, HE.out.2.1, HE.out.2.2⟩
  · have HI := Lib.hid hi
    have HINT := Lib.hid (inR_true HR.out (List.mem_append_left _ (List.mem_of_getElem? hx)) hid)
    have hkk : ¬ (k : Int) < 0 := by omega
    clear hi hx hid
    go_upto_region 3 with (go_at_call 27; refine (refIndex A1 n1 c1 o hs w1 (HH1.out.below HB1.out) (by omega)).mono ?_; rintro e w3 ⟨rfl, hb3⟩; rw [HI.out]; have HB3' := Lib.hid hb3; have HB3 := Lib.hid (HB1.out.trans (hb3.mono hz1)); have z1 := (HS1.out.below hb3).cell 1; simp at z1; clear hb3)
    have HB4 := Lib.hid HB3.out
    have HS4 := Lib.hid (HS1.out.below HB3'.out)
    have HR4 := Lib.hid (HR1.out.below HB3'.out)
    clear z0 z1 HB3' HB3
    have HHw := Lib.hid (HH1.out.below HB4.out)
    have HQw := Lib.hid (HW1.out.below HB4.out)
    have hc0 := HS4.out.cell 0
    have hc1 := HS4.out.cell 1
    simp at hc0 hc1
    have HC0 := Lib.hid hc0
    have HC1 := Lib.hid hc1
    clear hc0 hc1
    have HREL := Lib.hid (show releaseP t o = ((P43.look ⟨P43.drop t.hs o, P43.drop t.ws o⟩).1, (P43.look ⟨P43.drop t.hs o, P43.drop t.ws o⟩).2, 0) from by unfold releaseP; rw [HINT.out, if_pos rfl]; rfl)
    refine wp_region_once 15 13 (by kernel_rfl) (by kernel_rfl) (Kp) (fun b w1 => match b with
        | false => RowKit.Below w3.heap.size w3 w1
        | true => Boxed w w1 p r (hs ++ ws) ⟨P43.drop t.hs o, P43.drop t.ws o⟩)
      (fun i v w1 => match i with
        | 0 => v = .pointer (some ⟨p, 0, none⟩)
        | 1 => v = .slice A1 n1 c1
        | 2 => v = .int .i64 o
        | 3 => OwnR w1 w3.heap.size tW v (butR o hs)
        | 4 => v = .pointer (some ⟨p, 1, none⟩)
        | 5 => v = .slice A2 n2 c2
        | 6 => v = .int .i64 o
        | 7 => OwnR w1 w3.heap.size tW v (butR o ws)
        | 8 => TwoR w1 w3.heap.size (butR o hs) (butR o ws) v
        | 9 => LookV w1 w3.heap.size (hs ++ ws) ⟨P43.drop t.hs o, P43.drop t.ws o⟩ v
        | 10 => LookV w1 w3.heap.size (hs ++ ws) ⟨P43.drop t.hs o, P43.drop t.ws o⟩ v
        | 11 => LookA w1 (hs ++ ws) ⟨P43.drop t.hs o, P43.drop t.ws o⟩ v
        | 12 => OwnI w1 w3.heap.size v (P43.look ⟨P43.drop t.hs o, P43.drop t.ws o⟩).2
        | 14 => OwnI w1 w3.heap.size v (P43.look ⟨P43.drop t.hs o, P43.drop t.ws o⟩).2
        | _ => True) ?_ ((RowKit.Below.refl _ _).drew) ?_ ?_
    · intro ii vv w1 w2 hf hR
      match ii, hf with
      | 0, hf => exact hf
      | 1, hf => exact hf
      | 2, hf => exact hf
      | 3, hf => exact OwnR.kp hf hR
      | 4, hf => exact hf
      | 5, hf => exact hf
      | 6, hf => exact hf
      | 7, hf => exact OwnR.kp hf hR
      | 8, hf => exact TwoR.kp hf hR
      | 9, hf => exact LookV.kp hf hR
      | 10, hf => exact LookV.kp hf hR
      | 11, hf => exact LookA.kp hf hR
      | 12, hf => exact OwnI.kp hf hR
      | 13, _ => trivial
      | 14, hf => exact OwnI.kp hf hR
      | n + 15, _ => trivial
    · simp only [putAll, Act.put, List.setIfInBounds_toArray, List.set_cons_succ, List.set_cons_zero, Nat.zero_add, Nat.reduceAdd]
      refine allOps_cons ?_ (allOps_cons ?_ (allOps_cons ?_ (allOps_cons ?_ (allOps_cons ?_ (allOps_cons ?_ (allOps_cons ?_ (allOps_cons ?_ (allOps_cons ?_ (allOps_cons ?_ (allOps_cons ?_ (allOps_cons ?_ (allOps_cons ?_ (allOps_cons ?_ (allOps_cons ?_ allOps_nil))))))))))))))
      · intro u w1 b hC hbs hd K hK
        obtain rfl : b = false := hbs (by kernel_rfl)
        simp only [List.set_cons_succ, List.set_cons_zero] at hK ⊢
        go_simp
        exact hK _ _ (Kp.same _) hC rfl
      · intro u w1 b hC hbs hd K hK
        obtain rfl : b = false := hbs (by kernel_rfl)
        have h0 : u 0 = .pointer (some ⟨p, 0, none⟩) := hd 0 rfl
        have hc1 : w1.cell? ⟨p, 0, none⟩ = some (.slice A1 n1 c1) := by rw [(show RowKit.Below w3.heap.size w3 w1 from hC).cell (p := ⟨p, 0, none⟩) (World.block_lt_of_cell? w3 _ HC0.out)]; exact HC0.out
        simp only [List.set_cons_succ, List.set_cons_zero, h0] at hK ⊢
        go_simp
        exact hK _ _ (Kp.same _) hC rfl
      · intro u w1 b hC hbs hd K hK
        obtain rfl : b = false := hbs (by kernel_rfl)
        simp only [List.set_cons_succ, List.set_cons_zero] at hK ⊢
        go_simp
        exact hK _ _ (Kp.same _) hC rfl
      · intro u w1 b hC hbs hd K hK
        obtain rfl : b = false := hbs (by kernel_rfl)
        have h1 : u 1 = .slice A1 n1 c1 := hd 1 rfl
        have h2 : u 2 = .int .i64 o := hd 2 rfl
        have hC : RowKit.Below w3.heap.size w3 w1 := hC
        simp only [List.set_cons_succ, List.set_cons_zero, h1, h2] at hK ⊢
        rw [if_pos (show Region.wanted _ _ = true from rfl)]
        go_simp
        refine (refWithout A1 n1 c1 o hs w1 (HHw.out.below hC) (by omega)).mono ?_
        rintro e w' ⟨v, rfl, ho, hb⟩
        exact hK v w' (.of_below hb) (hC.trans (hb.mono hC.size)) (ho.base hC.size)
      · intro u w1 b hC hbs hd K hK
        obtain rfl : b = false := hbs (by kernel_rfl)
        simp only [List.set_cons_succ, List.set_cons_zero] at hK ⊢
        go_simp
        exact hK _ _ (Kp.same _) hC rfl
      · intro u w1 b hC hbs hd K hK
        obtain rfl : b = false := hbs (by kernel_rfl)
        have h4 : u 4 = .pointer (some ⟨p, 1, none⟩) := hd 4 rfl
        have hc1 : w1.cell? ⟨p, 1, none⟩ = some (.slice A2 n2 c2) := by rw [(show RowKit.Below w3.heap.size w3 w1 from hC).cell (p := ⟨p, 1, none⟩) (World.block_lt_of_cell? w3 _ HC1.out)]; exact HC1.out
        simp only [List.set_cons_succ, List.set_cons_zero, h4] at hK ⊢
        go_simp
        exact hK _ _ (Kp.same _) hC rfl
      · intro u w1 b hC hbs hd K hK
        obtain rfl : b = false := hbs (by kernel_rfl)
        simp only [List.set_cons_succ, List.set_cons_zero] at hK ⊢
        go_simp
        exact hK _ _ (Kp.same _) hC rfl
      · intro u w1 b hC hbs hd K hK
        obtain rfl : b = false := hbs (by kernel_rfl)
        have h5 : u 5 = .slice A2 n2 c2 := hd 5 rfl
        have h6 : u 6 = .int .i64 o := hd 6 rfl
        have hC : RowKit.Below w3.heap.size w3 w1 := hC
        simp only [List.set_cons_succ, List.set_cons_zero, h5, h6] at hK ⊢
        rw [if_pos (show Region.wanted _ _ = true from rfl)]
        go_simp
        refine (refWithout A2 n2 c2 o ws w1 (HQw.out.below hC) (by omega)).mono ?_
        rintro e w' ⟨v, rfl, ho, hb⟩
        exact hK v w' (.of_below hb) (hC.trans (hb.mono hC.size)) (ho.base hC.size)
      · intro u w1 b hC hbs hd K hK
        obtain rfl : b = false := hbs (by kernel_rfl)
        have h3 : OwnR w1 w3.heap.size tW (u 3) (butR o hs) := hd 3 rfl
        have h7 : OwnR w1 w3.heap.size tW (u 7) (butR o ws) := hd 7 rfl
        obtain ⟨A3, c3, e3, -, -⟩ := h3.cap
        obtain ⟨A7, c7, e7, -, -⟩ := h7.cap
        simp only [e3, e7] at hK ⊢
        simp only [List.set_cons_succ, List.set_cons_zero] at hK ⊢
        go_simp
        rw [e3] at h3
        rw [e7] at h7
        exact hK _ _ (Kp.same _) hC ⟨_, _, rfl, h3, h7⟩
      · intro u w1 b hC hbs hd K hK
        obtain rfl : b = false := hbs (by kernel_rfl)
        have hC : RowKit.Below w3.heap.size w3 w1 := hC
        obtain ⟨a8, b8, h8, h8a, h8b⟩ : TwoR w1 w3.heap.size (butR o hs) (butR o ws) (u 8) := hd 8 rfl
        simp only [h8] at hK ⊢
        simp only [List.set_cons_succ, List.set_cons_zero] at hK ⊢
        rw [if_pos (show Region.wanted _ _ = true from rfl)]
        go_simp
        refine (refLook a8 b8 ⟨P43.drop t.hs o, P43.drop t.ws o⟩ (butR o hs) (butR o ws) w1 (.own h8a) (.own h8b) (fun x hx => ((HWI.out x (but_mem hx)).1.below HB4.out).below hC) (by rw [butR_fst, butR_fst]; exact HR.out.drop o) (by have h1 := List.length_filter_le (fun x : Om => decide (x.1.id ≠ o)) hs; have h2 := List.length_filter_le (fun x : Om => decide (x.1.id ≠ o)) ws; have h3 := HLN.out; unfold butR; omega)).mono ?_
        rintro e w' ⟨va, vb, vo, rfl, hlr, hov, hb5⟩
        exact hK _ w' (.of_below hb5) (hC.trans (hb5.mono hC.size)) ⟨va, vb, vo, rfl, hlr.more (fun x hx => but_mem hx), hov.base hC.size⟩
      · intro u w1 b hC hbs hd K hK
        obtain rfl : b = false := hbs (by kernel_rfl)
        have h9 : LookV w1 w3.heap.size (hs ++ ws) ⟨P43.drop t.hs o, P43.drop t.ws o⟩ (u 9) := hd 9 rfl
        simp only [List.set_cons_succ, List.set_cons_zero] at hK ⊢
        go_simp
        exact hK _ _ (Kp.same _) hC h9
      · intro u w1 b hC hbs hd K hK
        obtain rfl : b = false := hbs (by kernel_rfl)
        obtain ⟨va, vb, vo, h10, hlr, hov⟩ : LookV w1 w3.heap.size (hs ++ ws) ⟨P43.drop t.hs o, P43.drop t.ws o⟩ (u 10) := hd 10 rfl
        simp only [h10] at hK ⊢
        simp only [List.set_cons_succ, List.set_cons_zero] at hK ⊢
        go_simp
        exact hK _ _ (Kp.same _) hC ⟨va, vb, rfl, hlr⟩
      · intro u w1 b hC hbs hd K hK
        obtain ⟨va, vb, vo, h10, hlr, hov⟩ : LookV w1 w3.heap.size (hs ++ ws) ⟨P43.drop t.hs o, P43.drop t.ws o⟩ (u 10) := hd 10 rfl
        simp only [h10] at hK ⊢
        simp only [List.set_cons_succ, List.set_cons_zero] at hK ⊢
        go_simp
        exact hK _ _ (Kp.same _) (by cases b <;> exact hC) hov
      · intro u w1 b hC hbs hd K hK
        obtain rfl : b = false := hbs (by kernel_rfl)
        have hC : RowKit.Below w3.heap.size w3 w1 := hC
        obtain ⟨va, vb, h11, hlr⟩ : LookA w1 (hs ++ ws) ⟨P43.drop t.hs o, P43.drop t.ws o⟩ (u 11) := hd 11 rfl
        obtain ⟨Aa, na, ca, Ab, nb, cb, hva, hvb⟩ := hlr.slices
        subst hva hvb
        have HSp := HS4.out.below hC
        have HRr := HR4.out.below hC
        have hc0 := HSp.cell 0
        have hc1 := HSp.cell 1
        have hf0 := HSp.frozen 0
        have hf1 := HSp.frozen 1
        have hlp := HSp.lt
        simp at hc0 hc1
        skip
        simp only [h11] at hK ⊢
        go_simp
        refine hK undef _ (Kp.store HSp _ _) ⟨_, _, by simpa using (HSp.put 0 (.slice Aa na ca)).put 1 (.slice Ab nb cb), (HRr.far (p := ⟨p, 0, none⟩) hpr (.slice Aa na ca)).far (p := ⟨p, 1, none⟩) hpr (.slice Ab nb cb), hlr.kp (Kp.store HSp _ _), ?_⟩ trivial
        exact ((HB4.out.trans (hC.mono HB4.out.size)).setCell (p := ⟨p, 0, none⟩) hp0 _).setCell (p := ⟨p, 1, none⟩) hp0 _
      · intro u w1 b hC hbs hd K hK
        have h12 : OwnI w1 w3.heap.size (u 12) (P43.look ⟨P43.drop t.hs o, P43.drop t.ws o⟩).2 := hd 12 rfl
        simp only [List.set_cons_succ, List.set_cons_zero] at hK ⊢
        go_simp
        exact hK _ _ (Kp.same _) (by cases b <;> exact hC) h12
    · intro u wt hC hf
      obtain ⟨va, vb, hbp, hbr, hlr, hlow⟩ : Boxed w wt p r (hs ++ ws) ⟨P43.drop t.hs o, P43.drop t.ws o⟩ := hC
      have h14 : OwnI wt w3.heap.size (u 14) (P43.look ⟨P43.drop t.hs o, P43.drop t.ws o⟩).2 := hf 14 (by decide)
      simp only [putAll, Act.put, List.setIfInBounds_toArray, List.set_cons_succ, List.set_cons_zero, Nat.zero_add, Nat.reduceAdd]
      obtain ⟨Aa, na, ca, Ab, nb, cb, hva, hvb⟩ := hlr.slices
      subst hva hvb
      have HV5 := Lib.hid (h14.base HB4.out.size)
      have HSp := Lib.hid hbp
      have HRr := Lib.hid hbr
      have HBe := Lib.hid hlow
      have HTR := Lib.hid (hlr.rtt (fun x hx => ⟨(HWI.out x hx).1.below hlow, (HWI.out x hx).2.below hlow⟩))
      obtain ⟨vo, hvo⟩ : ∃ vo, u 14 = vo := ⟨_, rfl⟩
      rw [hvo] at HV5 ⊢
      clear hlr h14 hf hvo hbp hbr hlow
      have HE := Lib.hid (tab_end2 HRr.out hr0 HTR.out HV5.out HBe.out)
      have hcr0 := HRr.out.cell 0
      have hcr1 := HRr.out.cell 1
      have hfr0 := HRr.out.frozen 0
      have hfr1 := HRr.out.frozen 1
      have hrl := HRr.out.lt
      have HPL := Lib.hid (show ∀ (j : Nat) (u : Value), (#[.slice Aa na ca, .slice Ab nb cb] : Array Value)[j]? = some u → wt.cell? ((⟨p, 0, none⟩ : Addr).add j) = some u from HSp.out.add)
      simp at hcr0 hcr1
      go_wp2_with (refine wpList_load_cells rfl tTb (.tmp 2) rfl ⟨p, 0, none⟩ rfl _ _ HPL.out Tryz.underlying29 rfl hlenT ?_)
      rw [HREL.out]
      exact bodyPost_ret (v := .tuple #[.agg #[.slice Aa na ca, .slice Ab nb cb], vo, .int .i64 0]) (by simp [results, Tryz.results9, go_sem, hcr0, hcr1]) rfl ⟨_, _, _, rfl, HE.out.1, HE.out.2.1, HE.out.2.2⟩
end Go.Proofs.YtojbddcbnnbklaaGreatDoor
