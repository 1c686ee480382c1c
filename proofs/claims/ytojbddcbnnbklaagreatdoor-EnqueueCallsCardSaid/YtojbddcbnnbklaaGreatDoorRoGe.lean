/- The reference's Share. The reference's Request. A region that draws its order and only reads and makes memory, one operation at its end; its frame written once: plain theorems, no function of the program in sight. Two tables side by side: the program's and the reference's. -/
import Derived.Test.YtojbddcbnnbklaaGreatDoorRoGd
import Derived.Laws.OwnMore
import Derived.Test.YtojbddcbnnbklaaGreatDoorRoGc
import Derived.Test.YtojbddcbnnbklaaGreatDoorRoGb
import Derived.Test.YtojbddcbnnbklaaGreatDoorRoGa
import Derived.Test.YtojbddcbnnbklaaGreatDoorClSame2
namespace Go.Proofs.YtojbddcbnnbklaaGreatDoor
open Go.RowKit P43
attribute [local go_sem] ByteArray.mk_append_mk ByteArray.extract_mk mk_index

theorem wpList_append_empty2 {P : Program} {w : World} {ops : Array Oper} {rest : List Oper} {o : Oper} {a : Act} {Q : Exit → Act → World → Prop} (hgd : o.guard = none) (s x : Operand) (t : TypeId)
    (ho : o.op = .call { callee := .builtin .append, args := #[s, x], argTypes := #[t, t] })
    (e : TypeId) (i : TypeInfo) (z : Value) (size bytes : Nat) (ht : P.underlying t = some (.slice e)) (hi : P.info? e = some i) (hz : i.zero = some z)
    (hsize : i.size = size) (hby : i.bytes = bytes) (hzs : z.cells.size = size) (hsz : 0 < size) (g base : Nat) (hs : a.eval s = .slice (some ⟨g, 0, none⟩) 0 0) (hgb : base ≤ g) (hg : w.heap[g]? = some (.cells #[] e (0, 0)))
    (A : Option Addr) (m c : Nat) (news : List Value) (hx : a.eval x = .slice A m c) (hr : CellsAt w A m size news) (h1 : ∀ u ∈ news, u.oneCell' = true) (h63 : m ≤ maxLen) (hbytes : m * bytes ≤ 140737488355328)
    (h : ∀ v' w', w'.ownsRow base e size v' m news → RowKit.Below w.heap.size w w' → wpList P ops Q rest (a.put o.dst v') w') : wpList P ops Q (o :: rest) a w := by
  refine wpList_plain hgd fun K hK => ?_
  exact wp_append_empty w s x t ho e i z size bytes ht hi hz hsize hby hzs hsz g base hs hgb hg A m c news hx hr h1 h63 hbytes (fun v' w' h2 h3 => hK _ _ (h v' w' h2 h3))
/-- A lock of that name made shared. -/
def shN (s : Nm) (p : Nm × Bool) : Nm × Bool := if p.1 = s then (p.1, false) else p
/-- .. the first i of a wish. -/
def shUp (ns : List (Nm × Bool)) (s : Nm) (i : Nat) : List (Nm × Bool) := (ns.take i).map (shN s) ++ ns.drop i
theorem shUp_len (ns : List (Nm × Bool)) (s : Nm) (i : Nat) : (shUp ns s i).length = ns.length := by
  unfold shUp
  rw [List.length_append, List.length_map, List.length_take, List.length_drop]
  omega
theorem shUp_at {ns : List (Nm × Bool)} {s : Nm} {i : Nat} {p : Nm × Bool} (h : ns[i]? = some p) : (shUp ns s i)[i]? = some p := by
  have hi := (List.getElem?_eq_some_iff.1 h).1
  have hl : ((ns.take i).map (shN s)).length = i := by rw [List.length_map, List.length_take]; omega
  unfold shUp
  rw [List.getElem?_append_right (by omega), hl, Nat.sub_self, List.getElem?_drop, Nat.add_zero]
  exact h
theorem shUp_next {ns : List (Nm × Bool)} {s : Nm} {i : Nat} {p : Nm × Bool} (h : ns[i]? = some p) : shUp ns s (i + 1) = (shUp ns s i).set i (shN s p) := by
  have hi := (List.getElem?_eq_some_iff.1 h).1
  have hl : ((ns.take i).map (shN s)).length = i := by rw [List.length_map, List.length_take]; omega
  unfold shUp
  rw [List.set_append_right _ _ (by omega), hl, Nat.sub_self, drop_at h, List.set_cons_zero, List.take_add_one, h, List.map_append]
  simp
theorem shUp_same {ns : List (Nm × Bool)} {s : Nm} {i : Nat} {p : Nm × Bool} (h : ns[i]? = some p) (hp : ¬ p.1 = s) : shUp ns s (i + 1) = shUp ns s i := by
  rw [shUp_next h]
  have e : shN s p = p := by unfold shN; rw [if_neg hp]
  rw [e]
  refine List.ext_getElem? fun j => ?_
  by_cases hj : i = j
  · subst hj
    rw [List.getElem?_set_self (by rw [shUp_len]; exact (List.getElem?_eq_some_iff.1 h).1), shUp_at h]
  · rw [List.getElem?_set_ne hj]
theorem shUp_all (c : Cl) (s : Nm) : shUp c.ns s c.ns.length = (setF c s).ns := by
  unfold shUp setF
  rw [List.take_length, List.drop_length, List.append_nil]
  rfl
theorem ncs_set : ∀ {l : List (Nm × Bool)} {i : Nat} {p : Nm × Bool} (_ : l[i]? = some p) (b : Bool), (ncs l).set (i * 2 + 1) (.bool b) = ncs (l.set i (p.1, b))
  | [], i, p, h, b => by simp at h
  | q :: l, 0, p, h, b => by
    simp only [List.getElem?_cons_zero, Option.some.injEq] at h
    subst h
    rfl
  | q :: l, i + 1, p, h, b => by
    have ih := ncs_set (l := l) (i := i) (p := p) (by simpa using h) b
    rw [List.set_cons_succ, ncs_cons, ncs_cons, ← ih, List.set_append_right _ _ (by simp [nc]; omega)]
    congr 2
    simp [nc]
    omega
theorem OwnN.blk {w : World} {B : Nat} {v : Value} {ls : List (Nm × Bool)} (h : OwnN w B tNL v ls) : ∀ k, v.ownBlock = some k → ∃ cs, Blk w k tNL cs := by
  intro k hk
  rcases h.2 with ⟨rfl, _⟩ | ⟨g, cap, cur, rfl, _, hb, _⟩
  · cases hk
  · injection hk with hk
    subst hk
    exact ⟨cur, hb⟩
/-- A wish's row of the call's own: a lock's second cell is written. -/
theorem OwnN.setB {w : World} {B g n c : Nat} {ls : List (Nm × Bool)} (h : OwnN w B tNL (.slice (some ⟨g, 0, none⟩) n c) ls) (hn : ls.length = n) {i : Nat} {p : Nm × Bool} (hp : ls[i]? = some p) (b : Bool) :
    OwnN (w.setCell ⟨g, i * 2 + 1, none⟩ (.bool b)) B tNL (.slice (some ⟨g, 0, none⟩) n c) (ls.set i (p.1, b)) := by
  subst hn
  have h1 := (World.ownsRow.stored h (i * 2 + 1) (.bool b)).1
  rw [ncs_set hp] at h1
  unfold OwnN
  rw [List.length_set]
  exact h1
theorem OwnN.below2 {w w' : World} {B : Nat} {v : Value} {ls : List (Nm × Bool)} (h : OwnN w B tNL v ls) (hb : Below w.heap.size w w') : OwnN w' B tNL v ls := World.ownsRow.kept (row := none) h ⟨hb.os, hb.tape, hb.output, hb.size, fun k hk _ => hb.block k hk⟩ (by cases v.ownBlock <;> simp)
theorem OwnN.slot {w : World} {B n c : Nat} {A : Option Addr} {ls : List (Nm × Bool)} (h : OwnN w B tNL (.slice A n c) ls) (hn : ls.length = n) {i : Nat} {p : Nm × Bool} (hp : ls[i]? = some p) :
    ∃ g, A = some ⟨g, 0, none⟩ ∧ B ≤ g ∧ w.cell? ⟨g, i * 2, none⟩ = some (.string ⟨p.1.toArray⟩) ∧ w.cell? ⟨g, i * 2 + 1, none⟩ = some (.bool p.2) ∧ w.frozen? ⟨g, i * 2 + 1, none⟩ = false ∧ (∃ cs, Blk w g tNL cs) ∧ ∀ b : Bool, OwnN (w.setCell ⟨g, i * 2 + 1, none⟩ (.bool b)) B tNL (.slice A n c) (ls.set i (p.1, b)) := by
  have hil := (List.getElem?_eq_some_iff.1 hp).1
  rcases h.2 with ⟨h1, h0⟩ | ⟨g, cap, cur, h1, hB, hb, h2⟩
  · omega
  · injection h1 with h3 h4 h5
    subst h3 h5
    refine ⟨g, rfl, hB, ?_, ?_, ?_, ⟨cur, hb⟩, fun b => h.setB hn hp b⟩
    · have hc := World.ownsRow.cells h (g := g) rfl (i * 2) (.string ⟨p.1.toArray⟩) (by have := ncs_get hp 0 (by omega); simpa [nc] using this)
      rw [Addr.add_lit, Nat.zero_add] at hc
      exact hc
    · have hc := World.ownsRow.cells h (g := g) rfl (i * 2 + 1) (.bool p.2) (by have := ncs_get hp 1 (by omega); simpa [nc] using this)
      rw [Addr.add_lit, Nat.zero_add] at hc
      exact hc
    · unfold Blk at *
      simp [World.frozen?, hb]
theorem OwnN.wish {w : World} {B : Nat} {A : Option Addr} {n c : Nat} {ls : List (Nm × Bool)} {o : Int} (h : OwnN w B tNL (.slice A n c) ls) (hn : ls.length = n) (hl : n ≤ 1000) : WishAt w (⟨o, ls⟩, (A, n, c)) ∧ WishT w (⟨o, ls⟩, (A, n, c)) := by
  subst hn
  obtain ⟨A', c', e, h1, h2⟩ := h.cap
  injection e with e1 e2 e3
  subst e1 e3
  refine ⟨⟨h1, hl⟩, fun b off e => ?_⟩
  simp only at e
  subst e
  rcases h.2 with ⟨h3, _⟩ | ⟨g, cap, cur, h3, _, hb, _⟩
  · cases h3
  · injection h3 with h4
    injection h4 with h4
    injection h4 with h5
    subst h5
    exact ⟨cur, hb⟩
theorem any_name {ns : List (Nm × Bool)} {s : Nm} : (ns.any fun p => decide (p.1 = s)) = true ↔ s ∈ names ns := by
  rw [List.any_eq_true]
  constructor
  · rintro ⟨p, hp, e⟩
    simp only [decide_eq_true_eq] at e
    exact List.mem_map.2 ⟨p, hp, e⟩
  · intro h
    obtain ⟨p, hp, e⟩ := List.mem_map.1 h
    exact ⟨p, hp, decide_eq_true e⟩
theorem wish_store {w : World} {p : Nat} {cs : Array Value} {y : Om} (hp : Blk w p tTb cs) (h : WishAt w y ∧ WishT w y) (a b : Value) : WishAt ((w.setCell ⟨p, 0, none⟩ a).setCell ⟨p, 1, none⟩ b) y ∧ WishT ((w.setCell ⟨p, 0, none⟩ a).setCell ⟨p, 1, none⟩ b) y :=
  wish_setCell (q := ⟨p, 1, none⟩) (wish_setCell (q := ⟨p, 0, none⟩) h hp (by decide) a) (hp.put 0 a) (by decide) b
/-- The table's box holds look's answer; the wishes lie where they say. -/
def Boxed2 (w w1 : World) (p r : Nat) (l : List Om) (t : T) : Prop := ∃ a b, Blk w1 p tTb #[a, b] ∧ Blk w1 r tTb #[.slice none 0 0, .slice none 0 0] ∧ LkRes w1 a b l (P43.look t).1 ∧ Below w.heap.size w w1 ∧ ∀ y ∈ l, WishAt w1 y ∧ WishT w1 y
theorem OwnR.sl {w : World} {B : Nat} {e : TypeId} {v : Value} {ls : List Om} (h : OwnR w B e v ls) : ∃ A n c, v = .slice A n c := by
  obtain ⟨A, c, e1, _⟩ := h.cap
  exact ⟨A, _, c, e1⟩
/-- What hold answers. -/
def HoldV (w : World) (B : Nat) (l : List Om) (x : Om) (v : Value) : Prop := ∃ k, InsAt (fun y : Om => y.1.id) l x.1.id k ∧ OwnR w B tW v (l.take k ++ x :: l.drop k)
theorem HoldV.kp {w w' : World} {B : Nat} {l : List Om} {x : Om} {v : Value} (h : HoldV w B l x v) (k : Kp w w') : HoldV w' B l x v := by
  obtain ⟨j, h1, h2⟩ := h
  exact ⟨j, h1, h2.kp k⟩
/-- A table: a row of the call's own, and a given slice. -/
def TabV (w : World) (B : Nat) (l : List Om) (x : Om) (b v : Value) : Prop := ∃ a, v = .agg #[a, b] ∧ HoldV w B l x a
theorem TabV.kp {w w' : World} {B : Nat} {l : List Om} {x : Om} {b v : Value} (h : TabV w B l x b v) (k : Kp w w') : TabV w' B l x b v := by
  obtain ⟨a, e, h1⟩ := h
  exact ⟨a, e, h1.kp k⟩
/-- The table behind Share's new holder. -/
theorem share_rt {t : T} {hs ws : List Om} {s : Nm} {x x' : Om} {k : Nat} (hR : RT ⟨hs.map (·.1), ws.map (·.1)⟩ t) (hn : (ids t.hs).Nodup) (hx : x ∈ hs) (hx' : x'.1 = setF x.1 s) (hi : InsAt (fun y : Om => y.1.id) (butR x.1.id hs) x'.1.id k) :
    RT ⟨((butR x.1.id hs).take k ++ x' :: (butR x.1.id hs).drop k).map (·.1), ws.map (·.1)⟩ ⟨shareL t.hs x.1.id s, t.ws⟩ := by
  have h1 := insAt_fst hi
  have h0 : RT ⟨(butR x.1.id hs).map (·.1), P43.drop (ws.map (·.1)) x.1.id⟩ ⟨P43.drop t.hs x.1.id, P43.drop t.ws x.1.id⟩ := by rw [butR_fst]; exact hR.drop x.1.id
  have h2 := h0.hold (c := x'.1) h1.1
  refine ⟨?_, ?_, hR.wait⟩
  · rw [h1.2]
    exact h2.by_
  · rw [h1.2, hx']
    have hc : x.1 ∈ hs.map (·.1) := List.mem_map.2 ⟨x, hx, rfl⟩
    have hn2 : (ids (hs.map (·.1))).Nodup := ((hR.perm.map Cl.id).nodup_iff).2 hn
    have h3 := share_perm hn2 hc s
    have h4 : (shareL (hs.map (·.1)) x.1.id s).Perm (shareL t.hs x.1.id s) := hR.perm.map _
    have h5 : (setF x.1 s :: (butR x.1.id hs).map (fun y : Om => y.1)).Perm ((butR x.1.id hs).map (fun y : Om => y.1) ++ [setF x.1 s]) := List.perm_append_comm (l₁ := [setF x.1 s])
    refine (ins_perm _ _ _).trans (h5.trans ?_)
    rw [butR_fst]
    exact h3.trans h4
set_option maxRecDepth 100000 in
set_option maxHeartbeats 16000000 in
theorem refShare (v1 v2 : Value) (t : T) (o : Int) (s : Nm) (w : World) (h : RTT w v1 v2 t) (hn : t.hs.length + t.ws.length ≤ 80000) (hnd : (ids t.hs).Nodup) :
    Calls Tryz.prog 10 #[.agg #[v1, v2], .int .i64 o, .string ⟨s.toArray⟩] w fun e w' => ∃ a b vo, e = .returned (.tuple #[.agg #[a, b], vo, .int .i64 (shareP t o s).2.2]) ∧ RTT w' a b (shareP t o s).1 ∧ OwnI w' w.heap.size vo (shareP t o s).2.1 ∧ Below w.heap.size w w' := by
  have H := Lib.hid h
  obtain ⟨hs, ws, ⟨A1, n1, c1, rfl, hh1, hh2, hh3⟩, ⟨A2, n2, c2, rfl, hw1, hw2, hw3⟩, hW, hR⟩ := id h
  have HR := Lib.hid hR
  have HND := Lib.hid hnd
  have HWI := Lib.hid hW
  have HH1 := Lib.hid hh1
  have HW1 := Lib.hid hw1
  have HW0 := Lib.hid (show RsO w (.slice A2 n2 c2) ws from ⟨A2, n2, c2, rfl, hw1, hw2, hw3⟩)
  have HLN := Lib.hid (show hs.length + ws.length ≤ 80000 from by
    have h1 := hR.perm.length_eq
    have h2 := congrArg List.length hR.wait
    simp only [List.length_map] at h1 h2
    omega)
  have hl1 := hh1.len
  have hl2 := hw1.len
  have hl90 : n1 + n2 ≤ 80000 := by have := HLN.out; omega
  have hlenT : (Tryz.prog.info? tTb).map (·.size) = some 2 := by kernel_rfl
  obtain ⟨i0, hi0, hz0, hz1', hz2⟩ := info_parts infoN
  have HI := Lib.hid hi0
  have HZ0 := Lib.hid hz0
  have HZ1 := Lib.hid hz1'
  have HZ2 := Lib.hid hz2
  clear h hn hnd hh1 hh2 hh3 hw1 hw2 hw3 hi0 hz0 hz1' hz2
  go_enter Tryz.func10, Tryz.ntmps10
  go_upto_region 1 with (fail)
  obtain ⟨w1, p, r, e1, e2, e3, hb1, h1, h2⟩ := boxes2 w tTb #[.slice A1 n1 c1, .slice A2 n2 c2] #[.slice none 0 0, .slice none 0 0]
  rw [e1, e3, e2]
  have hp0 : w.heap.size ≤ p := by omega
  have hr0 : w.heap.size ≤ r := by omega
  have hpr : r ≠ p := by omega
  have HB1 := Lib.hid hb1
  have HS1 := Lib.hid h1
  have HR1 := Lib.hid h2
  have hz1 := hb1.size
  clear e1 e2 e3 hb1 h1 h2
  have z0 := HS1.out.cell 0
  simp at z0
  rcases rIdx_cases o hs with ⟨hi, hf⟩ | ⟨k, x, hi, hx, hid, hf⟩
  · have HI1 := Lib.hid hi
    have HNH := Lib.hid (show heldP t o = [] from by
      rw [← hR.held HND.out]
      refine held_none fun hm => ?_
      obtain ⟨c, hc, e⟩ := List.mem_map.1 hm
      obtain ⟨y, hy, rfl⟩ := List.mem_map.1 hc
      have := List.find?_eq_none.1 hf y hy
      simp only [decide_eq_true_eq] at this
      exact this e)
    have HREL := Lib.hid (show shareP t o s = (t, [], 6) from by unfold shareP; rw [HNH.out, if_neg (by simp [names])])
    clear hi hf hR
    go_upto_region 3 with (go_at_call 27; refine (refIndex A1 n1 c1 _ hs w1 (HH1.out.below HB1.out) (by omega)).mono ?_; rintro e w3 ⟨rfl, hb3⟩; rw [HI1.out]; have HB3' := Lib.hid hb3; have HB3 := Lib.hid (HB1.out.trans (hb3.mono hz1)); have HS3 := Lib.hid (HS1.out.below hb3); have HR3 := Lib.hid (HR1.out.below hb3); clear hb3)
    clear z0
    have HPL := Lib.hid (show ∀ (j : Nat) (u : Value), (#[.slice A1 n1 c1, .slice A2 n2 c2] : Array Value)[j]? = some u → w3.cell? ((⟨p, 0, none⟩ : Addr).add j) = some u from HS3.out.add)
    have hcr0 := HR3.out.cell 0
    have hcr1 := HR3.out.cell 1
    simp at hcr0 hcr1
    have hfr0 := HR3.out.frozen 0
    have hfr1 := HR3.out.frozen 1
    have hrl := HR3.out.lt
    go_wp2_with (refine wpList_load_cells rfl tTb (.tmp 3) rfl ⟨p, 0, none⟩ rfl _ _ HPL.out Tryz.underlying29 rfl hlenT ?_)
    have HE := Lib.hid (tab_same hr0 H.out HB3.out)
    rw [HREL.out]
    exact bodyPost_ret (v := .tuple #[.agg #[.slice A1 n1 c1, .slice A2 n2 c2], .slice none 0 0, .int .i64 6]) (by simp [results, Tryz.results10, go_sem, hcr0, hcr1]) rfl ⟨_, _, _, rfl, HE.out.1, OwnI.nil _ _, HE.out.2⟩
  · obtain ⟨⟨xi, ns⟩, Ax, nx, cx⟩ := x
    simp only at hid
    subst hid
    have HI1 := Lib.hid hi
    have hkk : ¬ (k : Int) < 0 := by omega
    have hk2 : (0 : Int) ≤ (k : Int) := by omega
    have hkn : k < n1 := by have h1 := (List.getElem?_eq_some_iff.1 hx).1; omega
    have hk3 : (k : Int) < (n1 : Int) := by omega
    have hxm := List.mem_of_getElem? hx
    have HXM := Lib.hid hxm
    have HWX := Lib.hid (HWI.out _ (List.mem_append_left _ hxm))
    have hnx := HWX.out.1.2
    simp only at hnx
    have HNH := Lib.hid (show heldP t xi = ns from by
      have h1 : (⟨xi, ns⟩ : Cl) ∈ hs.map (·.1) := List.mem_map.2 ⟨_, hxm, rfl⟩
      have h2 := find_id (((hR.perm.map Cl.id).nodup_iff).2 HND.out) h1
      rw [← hR.held HND.out]
      unfold heldP
      simp only at h2 ⊢
      rw [h2]
      rfl)
    have HXL := Lib.hid (show ∀ w' : World, Below w.heap.size w w' → ∃ b off, A1 = some ⟨b, off, none⟩ ∧ w'.cell? ⟨b, off + k * 2 + 1, none⟩ = some (.slice Ax nx cx) from fun w' h' => by
      obtain ⟨b', off', y, hA', hy, -, y1⟩ := (OwsAt.below HH1.out h').at_ hkn
      rw [hx] at hy
      cases hy
      exact ⟨b', off', hA', y1⟩)
    have HNL := Lib.hid HWX.out.1.1.len
    clear hi hf hR hx hxm
    go_upto_region 4 with (go_at_call 27; refine (refIndex A1 n1 c1 _ hs w1 (HH1.out.below HB1.out) (by omega)).mono ?_; rintro e w3 ⟨rfl, hb3⟩; rw [HI1.out]; have HB3' := Lib.hid hb3; have HB3 := Lib.hid (HB1.out.trans (hb3.mono hz1)); have HS3 := Lib.hid (HS1.out.below hb3); have HR3 := Lib.hid (HR1.out.below hb3); clear hb3)
    have z0 := HS3.out.cell 0
    simp at z0
    have hsz3 := HB3.out.size
    obtain ⟨b, off, rfl, x1⟩ := HXL.out _ HB3.out
    have za : ∀ ob : Obj, (w3.alloc ob).cell? ⟨p, 0, none⟩ = some (.slice (some ⟨b, off, none⟩) n1 c1) := fun ob => by
      have := (HS3.out.alloc ob).cell 0
      simpa using this
    have xa : ∀ ob : Obj, (w3.alloc ob).cell? ⟨b, off + k * 2 + 1, none⟩ = some (.slice Ax nx cx) := fun ob => by
      obtain ⟨b', off', hA', x1'⟩ := HXL.out _ (HB3.out.alloc hsz3 ob)
      cases hA'
      exact x1'
    go_upto_region 5 with (at_builtin; refine wpList_append_empty2 rfl (.tmp 21) (.tmp 27) _ rfl tNL i0 _ 2 24 Tryz.underlying30 HI.out HZ0.out HZ1.out HZ2.out rfl (by omega) w3.heap.size w.heap.size rfl hsz3 (heap_alloc_new w3 _) Ax nx cx (ncs ns) rfl (HWX.out.1.1.below (HB3.out.alloc hsz3 _)) (ncs_one _) (by unfold maxLen; omega) (by omega) ?_; intro v10 w10 ho10 hb10; have HO10 := Lib.hid ho10; have HB10 := Lib.hid hb10; clear ho10 hb10)
    have HON := Lib.hid (show OwnN w10 w.heap.size tNL v10 ns from by
      unfold OwnN
      rw [HNL.out]
      exact HO10.out)
    have HBA := Lib.hid ((HB3.out.alloc hsz3 (.cells #[] tNL)).trans (HB10.out.mono (Nat.le_trans hsz3 (by simp))))
    have HSA := Lib.hid ((HS3.out.alloc (.cells #[] tNL)).below HB10.out)
    have HRA := Lib.hid ((HR3.out.alloc (.cells #[] tNL)).below HB10.out)
    obtain ⟨A10, c10, hv10, -, -⟩ := HON.out.cap
    rw [HNL.out] at hv10
    subst hv10
    clear z0 x1 za xa HS3 HR3 HB3 HB3' HO10 HB10
    go_wp2
    go_loopw [11, 12] (fun fv iv wr => ∃ i : Nat, i ≤ nx ∧ iv = .int .i64 i ∧ OwnN wr w.heap.size tNL (.slice A10 nx c10) (shUp ns s i) ∧ fv = .bool ((ns.take i).any fun p => decide (p.1 = s)) ∧ Blk wr p tTb #[.slice (some ⟨b, off, none⟩) n1 c1, .slice A2 n2 c2] ∧ Blk wr r tTb #[.slice none 0 0, .slice none 0 0] ∧ Below w.heap.size w wr) (fun _ iv _ => nx - (intOf iv).toNat)
    case atStart => exact ⟨0, Nat.zero_le _, rfl, by unfold shUp; simpa using HON.out, by simp, HSA.out, HRA.out, HBA.out⟩
    case round =>
      clear HON HSA HRA HBA
      obtain ⟨i, hi, rfl, ho, rfl, hsp, hrr, hb⟩ := hrel
      have HO := Lib.hid ho
      have HSP := Lib.hid hsp
      have HRR := Lib.hid hrr
      have HB := Lib.hid hb
      have hlen : (shUp ns s i).length = nx := by rw [shUp_len]; exact HNL.out
      have HLEN := Lib.hid hlen
      obtain ⟨fd, hfd⟩ : ∃ fd, ((ns.take i).any fun p => decide (p.1 = s)) = fd := ⟨_, rfl⟩
      have HFD := Lib.hid hfd
      rw [hfd]
      clear ho hsp hrr hb hfd hlen
      by_cases hlt : i < nx
      · obtain ⟨q, hq⟩ : ∃ q, ns[i]? = some q := ⟨_, List.getElem?_eq_getElem (by have := HNL.out; omega)⟩
        obtain ⟨g, rfl, hg, y0, y1, f1, ⟨csg, hgb⟩, hset⟩ := HO.out.slot HLEN.out (shUp_at (s := s) hq)
        have HQ := Lib.hid hq
        have HANY := Lib.hid (any_take (f := fun p : Nm × Bool => decide (p.1 = s)) hq)
        have HSET := Lib.hid hset
        have hi1 : (i : Int) < (nx : Int) := by omega
        have hi2 : (0 : Int) ≤ (i : Int) := by omega
        have hgl := hgb.lt
        have hgp : p ≠ g := Blk.ne HSP.out hgb (by decide)
        have hgr : r ≠ g := Blk.ne HRR.out hgb (by decide)
        clear hq hset hgb
        obtain ⟨qn, qx⟩ := q
        simp only at y0 y1
        by_cases he : qn = s
        · subst he
          go_wp2
          refine ⟨⟨i + 1, hlt, by simp, ?_, ?_, HSP.out.far hgp _, HRR.out.far hgr _, HB.out.setCell hg _⟩, by dsimp only [intOf]; omega⟩
          · rw [shUp_next HQ.out]
            have := HSET.out false
            unfold shN
            rw [if_pos rfl]
            exact this
          · rw [HANY.out]
            simp
        · have hd1 : (qn == s) = false := beq_eq_false_iff_ne.2 he
          have hd2 : ((qn : List UInt8) == (s : List UInt8)) = false := beq_eq_false_iff_ne.2 he
          have HE := Lib.hid he
          clear he
          go_wp2
          refine ⟨⟨i + 1, hlt, by simp, ?_, ?_, HSP.out, HRR.out, HB.out⟩, by dsimp only [intOf]; omega⟩
          · rw [shUp_same HQ.out HE.out]
            exact HO.out
          · rw [HANY.out, HFD.out, decide_eq_false HE.out, Bool.or_false]
      · have hin : nx = i := by omega
        subst hin
        have hi1 : ¬ (nx : Int) < (nx : Int) := by omega
        have HOF := Lib.hid (show OwnN wr w.heap.size tNL (.slice A10 nx c10) (setF ⟨xi, ns⟩ s).ns from by
          have h1 := HO.out
          have h2 := HNL.out
          rw [← h2, shUp_all ⟨xi, ns⟩ s, h2] at h1
          exact h1)
        have HFA := Lib.hid (show fd = true ↔ s ∈ names ns from by
          have h1 := HFD.out
          have h2 := HNL.out
          rw [← h2, List.take_length] at h1
          rw [← h1]
          exact any_name)
        clear HO HFD hlt hi
        obtain ⟨w5, hw5⟩ : ∃ w5, wr = w5 := ⟨_, rfl⟩
        rw [hw5] at HOF HSP HRR HB ⊢
        clear hw5 wr
        cases fd with
        | false =>
          have HREL := Lib.hid (show shareP t xi s = (t, [], 6) from by
            unfold shareP
            rw [HNH.out, if_neg (fun e => by have := HFA.out.2 e; cases this)])
          go_upto_region 12 with (fail)
          have HPL := Lib.hid (show ∀ (j : Nat) (u : Value), (#[.slice (some ⟨b, off, none⟩) n1 c1, .slice A2 n2 c2] : Array Value)[j]? = some u → w5.cell? ((⟨p, 0, none⟩ : Addr).add j) = some u from HSP.out.add)
          have hcr0 := HRR.out.cell 0
          have hcr1 := HRR.out.cell 1
          simp at hcr0 hcr1
          have hfr0 := HRR.out.frozen 0
          have hfr1 := HRR.out.frozen 1
          have hrl := HRR.out.lt
          go_wp2_with (refine wpList_load_cells rfl tTb (.tmp 3) rfl ⟨p, 0, none⟩ rfl _ _ HPL.out Tryz.underlying29 rfl hlenT ?_)
          have HE := Lib.hid (tab_same hr0 H.out HB.out)
          rw [HREL.out]
          exact bodyPost_ret (v := .tuple #[.agg #[.slice (some ⟨b, off, none⟩) n1 c1, .slice A2 n2 c2], .slice none 0 0, .int .i64 6]) (by simp [results, Tryz.results10, go_sem, hcr0, hcr1]) rfl ⟨_, _, _, rfl, HE.out.1, OwnI.nil _ _, HE.out.2⟩
        | true =>
          have HREL := Lib.hid (show shareP t xi s = ((P43.look ⟨shareL t.hs xi s, t.ws⟩).1, (P43.look ⟨shareL t.hs xi s, t.ws⟩).2, 0) from by
            unfold shareP
            rw [HNH.out, if_pos (HFA.out.1 rfl)]
            rfl)
          go_upto_region 13 with (fail)
          have HHw := Lib.hid (HH1.out.below HB.out)
          have hc0 := HSP.out.cell 0
          have hc1 := HSP.out.cell 1
          simp at hc0 hc1
          have HC0 := Lib.hid hc0
          have HC1 := Lib.hid hc1
          have HWA := Lib.hid (show ∀ y ∈ ((⟨xi, (setF ⟨xi, ns⟩ s).ns⟩, (A10, nx, c10)) : Om) :: (hs ++ ws), WishAt w5 y ∧ WishT w5 y from fun y hy => by
            rcases List.mem_cons.1 hy with rfl | hy
            · exact HOF.out.wish (by rw [show (setF ⟨xi, ns⟩ s).ns.length = ns.length from by unfold setF; simp]; exact HNL.out) hnx
            · exact ⟨(HWI.out y hy).1.below HB.out, (HWI.out y hy).2.below HB.out⟩)
          have HMEM := Lib.hid (show ∀ (j : Nat) (y : Om), y ∈ ((butR xi hs).take j ++ ((⟨xi, (setF ⟨xi, ns⟩ s).ns⟩, (A10, nx, c10)) : Om) :: (butR xi hs).drop j) ++ ws → y ∈ ((⟨xi, (setF ⟨xi, ns⟩ s).ns⟩, (A10, nx, c10)) : Om) :: (hs ++ ws) from fun j y hy => by
            rcases List.mem_append.1 hy with hy | hy
            · rcases ins_mem hy with hy | rfl
              · exact List.mem_cons_of_mem _ (List.mem_append_left _ (List.mem_filter.1 hy).1)
              · exact List.mem_cons_self ..
            · exact List.mem_cons_of_mem _ (List.mem_append_right _ hy))
          clear hc0 hc1
          refine wp_region_once 17 15 (by kernel_rfl) (by kernel_rfl) (Kp) (fun b w1 => match b with
              | false => RowKit.Below w5.heap.size w5 w1
              | true => Boxed2 w w1 p r (((⟨xi, (setF ⟨xi, ns⟩ s).ns⟩, (A10, nx, c10)) : Om) :: (hs ++ ws)) ⟨shareL t.hs xi s, t.ws⟩)
            (fun i v w1 => match i with
              | 0 => v = .pointer (some ⟨p, 0, none⟩)
              | 1 => v = .slice (some ⟨b, off, none⟩) n1 c1
              | 2 => v = .int .i64 xi
              | 3 => OwnR w1 w5.heap.size tW v (butR xi hs)
              | 4 => v = .int .i64 xi
              | 5 => v = .slice A10 nx c10
              | 6 => v = .agg #[.int .i64 xi, .slice A10 nx c10]
              | 7 => HoldV w1 w5.heap.size (butR xi hs) ((⟨xi, (setF ⟨xi, ns⟩ s).ns⟩, (A10, nx, c10)) : Om) v
              | 8 => v = .pointer (some ⟨p, 1, none⟩)
              | 9 => v = .slice A2 n2 c2
              | 10 => TabV w1 w5.heap.size (butR xi hs) ((⟨xi, (setF ⟨xi, ns⟩ s).ns⟩, (A10, nx, c10)) : Om) (.slice A2 n2 c2) v
              | 11 => LookV w1 w5.heap.size (((⟨xi, (setF ⟨xi, ns⟩ s).ns⟩, (A10, nx, c10)) : Om) :: (hs ++ ws)) ⟨shareL t.hs xi s, t.ws⟩ v
              | 12 => LookV w1 w5.heap.size (((⟨xi, (setF ⟨xi, ns⟩ s).ns⟩, (A10, nx, c10)) : Om) :: (hs ++ ws)) ⟨shareL t.hs xi s, t.ws⟩ v
              | 13 => LookA w1 (((⟨xi, (setF ⟨xi, ns⟩ s).ns⟩, (A10, nx, c10)) : Om) :: (hs ++ ws)) ⟨shareL t.hs xi s, t.ws⟩ v
              | 14 => OwnI w1 w5.heap.size v (P43.look ⟨shareL t.hs xi s, t.ws⟩).2
              | 16 => OwnI w1 w5.heap.size v (P43.look ⟨shareL t.hs xi s, t.ws⟩).2
              | _ => True) ?_ ((RowKit.Below.refl _ _).drew) ?_ ?_
          · intro ii vv w1 w2 hf hR
            match ii, hf with
            | 0, hf => exact hf
            | 1, hf => exact hf
            | 2, hf => exact hf
            | 3, hf => exact OwnR.kp hf hR
            | 4, hf => exact hf
            | 5, hf => exact hf
            | 6, hf => exact hf
            | 7, hf => exact HoldV.kp hf hR
            | 8, hf => exact hf
            | 9, hf => exact hf
            | 10, hf => exact TabV.kp hf hR
            | 11, hf => exact LookV.kp hf hR
            | 12, hf => exact LookV.kp hf hR
            | 13, hf => exact LookA.kp hf hR
            | 14, hf => exact OwnI.kp hf hR
            | 15, _ => trivial
            | 16, hf => exact OwnI.kp hf hR
            | n + 17, _ => trivial
          · simp only [putAll, Act.put, List.setIfInBounds_toArray, List.set_cons_succ, List.set_cons_zero, Nat.zero_add, Nat.reduceAdd]
            refine allOps_cons ?_ (allOps_cons ?_ (allOps_cons ?_ (allOps_cons ?_ (allOps_cons ?_ (allOps_cons ?_ (allOps_cons ?_ (allOps_cons ?_ (allOps_cons ?_ (allOps_cons ?_ (allOps_cons ?_ (allOps_cons ?_ (allOps_cons ?_ (allOps_cons ?_ (allOps_cons ?_ (allOps_cons ?_ (allOps_cons ?_ allOps_nil))))))))))))))))
            · intro u w1 b hC hbs hd K hK
              obtain rfl : b = false := hbs (by kernel_rfl)
              simp only [List.set_cons_succ, List.set_cons_zero] at hK ⊢
              go_simp
              exact hK _ _ (Kp.same _) hC rfl
            · intro u w1 b hC hbs hd K hK
              obtain rfl : b = false := hbs (by kernel_rfl)
              have h0 : u 0 = .pointer (some ⟨p, 0, none⟩) := hd 0 rfl
              have hc1 : w1.cell? ⟨p, 0, none⟩ = some (.slice (some ⟨b, off, none⟩) n1 c1) := by rw [(show RowKit.Below w5.heap.size w5 w1 from hC).cell (p := ⟨p, 0, none⟩) (World.block_lt_of_cell? w5 _ HC0.out)]; exact HC0.out
              simp only [List.set_cons_succ, List.set_cons_zero, h0] at hK ⊢
              go_simp
              exact hK _ _ (Kp.same _) hC rfl
            · intro u w1 b hC hbs hd K hK
              obtain rfl : b = false := hbs (by kernel_rfl)
              simp only [List.set_cons_succ, List.set_cons_zero] at hK ⊢
              go_simp
              exact hK _ _ (Kp.same _) hC rfl
            · intro u w1 b hC hbs hd K hK
              obtain rfl : b = false := hbs (by kernel_rfl)
              have h1 : u 1 = .slice (some ⟨b, off, none⟩) n1 c1 := hd 1 rfl
              have h2 : u 2 = .int .i64 xi := hd 2 rfl
              have hC : RowKit.Below w5.heap.size w5 w1 := hC
              simp only [List.set_cons_succ, List.set_cons_zero, h1, h2] at hK ⊢
              rw [if_pos (show Region.wanted _ _ = true from rfl)]
              go_simp
              refine (refWithout (some ⟨b, off, none⟩) n1 c1 xi hs w1 (HHw.out.below hC) (by omega)).mono ?_
              rintro e w' ⟨v, rfl, ho, hb⟩
              exact hK v w' (.of_below hb) (hC.trans (hb.mono hC.size)) (ho.base hC.size)
            · intro u w1 b hC hbs hd K hK
              obtain rfl : b = false := hbs (by kernel_rfl)
              simp only [List.set_cons_succ, List.set_cons_zero] at hK ⊢
              go_simp
              exact hK _ _ (Kp.same _) hC rfl
            · intro u w1 b hC hbs hd K hK
              obtain rfl : b = false := hbs (by kernel_rfl)
              simp only [List.set_cons_succ, List.set_cons_zero] at hK ⊢
              go_simp
              exact hK _ _ (Kp.same _) hC rfl
            · intro u w1 b hC hbs hd K hK
              obtain rfl : b = false := hbs (by kernel_rfl)
              have h4 : u 4 = .int .i64 xi := hd 4 rfl
              have h5 : u 5 = .slice A10 nx c10 := hd 5 rfl
              simp only [List.set_cons_succ, List.set_cons_zero, h4, h5] at hK ⊢
              go_simp
              exact hK _ _ (Kp.same _) hC rfl
            · intro u w1 b hC hbs hd K hK
              obtain rfl : b = false := hbs (by kernel_rfl)
              have h6 : u 6 = .agg #[.int .i64 xi, .slice A10 nx c10] := hd 6 rfl
              have hC : RowKit.Below w5.heap.size w5 w1 := hC
              have h3 : OwnR w1 w5.heap.size tW (u 3) (butR xi hs) := hd 3 rfl
              obtain ⟨A3, c3, e3, hs3, hc3⟩ := h3.cap
              simp only [e3] at hK ⊢
              simp only [List.set_cons_succ, List.set_cons_zero, h6] at hK ⊢
              rw [if_pos (show Region.wanted _ _ = true from rfl)]
              go_simp
              refine (refHold A3 _ c3 ((⟨xi, (setF ⟨xi, ns⟩ s).ns⟩, (A10, nx, c10)) : Om) (butR xi hs) w1 hs3 hc3 (by have h1 := List.length_filter_le (fun x : Om => decide (x.1.id ≠ xi)) hs; have h3 := HLN.out; unfold butR; omega)).mono ?_
              rintro e w' ⟨v, rfl, ⟨j, hij, ho⟩, hb⟩
              exact hK v w' (.of_below hb) (hC.trans (hb.mono hC.size)) ⟨j, hij, ho.base hC.size⟩
            · intro u w1 b hC hbs hd K hK
              obtain rfl : b = false := hbs (by kernel_rfl)
              simp only [List.set_cons_succ, List.set_cons_zero] at hK ⊢
              go_simp
              exact hK _ _ (Kp.same _) hC rfl
            · intro u w1 b hC hbs hd K hK
              obtain rfl : b = false := hbs (by kernel_rfl)
              have h8 : u 8 = .pointer (some ⟨p, 1, none⟩) := hd 8 rfl
              have hc1 : w1.cell? ⟨p, 1, none⟩ = some (.slice A2 n2 c2) := by rw [(show RowKit.Below w5.heap.size w5 w1 from hC).cell (p := ⟨p, 1, none⟩) (World.block_lt_of_cell? w5 _ HC1.out)]; exact HC1.out
              simp only [List.set_cons_succ, List.set_cons_zero, h8] at hK ⊢
              go_simp
              exact hK _ _ (Kp.same _) hC rfl
            · intro u w1 b hC hbs hd K hK
              obtain rfl : b = false := hbs (by kernel_rfl)
              have h9 : u 9 = .slice A2 n2 c2 := hd 9 rfl
              obtain ⟨j, hij, ho⟩ : HoldV w1 w5.heap.size (butR xi hs) ((⟨xi, (setF ⟨xi, ns⟩ s).ns⟩, (A10, nx, c10)) : Om) (u 7) := hd 7 rfl
              obtain ⟨A7, n7, c7, e7⟩ := ho.sl
              simp only [e7] at hK ⊢
              simp only [List.set_cons_succ, List.set_cons_zero, h9] at hK ⊢
              go_simp
              rw [e7] at ho
              exact hK _ _ (Kp.same _) hC ⟨_, rfl, j, hij, ho⟩
            · intro u w1 b hC hbs hd K hK
              obtain rfl : b = false := hbs (by kernel_rfl)
              have hC : RowKit.Below w5.heap.size w5 w1 := hC
              obtain ⟨a10, h10, j, hij, ho⟩ : TabV w1 w5.heap.size (butR xi hs) ((⟨xi, (setF ⟨xi, ns⟩ s).ns⟩, (A10, nx, c10)) : Om) (.slice A2 n2 c2) (u 10) := hd 10 rfl
              simp only [h10] at hK ⊢
              simp only [List.set_cons_succ, List.set_cons_zero] at hK ⊢
              rw [if_pos (show Region.wanted _ _ = true from rfl)]
              go_simp
              refine (refLook a10 (.slice A2 n2 c2) ⟨shareL t.hs xi s, t.ws⟩ ((butR xi hs).take j ++ ((⟨xi, (setF ⟨xi, ns⟩ s).ns⟩, (A10, nx, c10)) : Om) :: (butR xi hs).drop j) ws w1 (.own ho) ((HW0.out.below HB.out).below hC) (fun y hy => (HWA.out y (HMEM.out j y hy)).1.below hC) (share_rt HR.out HND.out (x := (⟨xi, ns⟩, (Ax, nx, cx))) HXM.out rfl hij) (by rw [List.length_append, List.length_take, List.length_cons, List.length_drop]; have h1 := List.length_filter_le (fun x : Om => decide (x.1.id ≠ xi)) hs; have h3 := HLN.out; unfold butR; omega)).mono ?_
              rintro e w' ⟨va, vb, vo, rfl, hlr, hov, hb5⟩
              exact hK _ w' (.of_below hb5) (hC.trans (hb5.mono hC.size)) ⟨va, vb, vo, rfl, hlr.more (fun y hy => HMEM.out j y hy), hov.base hC.size⟩
            · intro u w1 b hC hbs hd K hK
              obtain rfl : b = false := hbs (by kernel_rfl)
              have h9 : LookV w1 w5.heap.size (((⟨xi, (setF ⟨xi, ns⟩ s).ns⟩, (A10, nx, c10)) : Om) :: (hs ++ ws)) ⟨shareL t.hs xi s, t.ws⟩ (u 11) := hd 11 rfl
              simp only [List.set_cons_succ, List.set_cons_zero] at hK ⊢
              go_simp
              exact hK _ _ (Kp.same _) hC h9
            · intro u w1 b hC hbs hd K hK
              obtain rfl : b = false := hbs (by kernel_rfl)
              obtain ⟨va, vb, vo, h10, hlr, hov⟩ : LookV w1 w5.heap.size (((⟨xi, (setF ⟨xi, ns⟩ s).ns⟩, (A10, nx, c10)) : Om) :: (hs ++ ws)) ⟨shareL t.hs xi s, t.ws⟩ (u 12) := hd 12 rfl
              simp only [h10] at hK ⊢
              simp only [List.set_cons_succ, List.set_cons_zero] at hK ⊢
              go_simp
              exact hK _ _ (Kp.same _) hC ⟨va, vb, rfl, hlr⟩
            · intro u w1 b hC hbs hd K hK
              obtain ⟨va, vb, vo, h10, hlr, hov⟩ : LookV w1 w5.heap.size (((⟨xi, (setF ⟨xi, ns⟩ s).ns⟩, (A10, nx, c10)) : Om) :: (hs ++ ws)) ⟨shareL t.hs xi s, t.ws⟩ (u 12) := hd 12 rfl
              simp only [h10] at hK ⊢
              simp only [List.set_cons_succ, List.set_cons_zero] at hK ⊢
              go_simp
              exact hK _ _ (Kp.same _) (by cases b <;> exact hC) hov
            · intro u w1 b hC hbs hd K hK
              obtain rfl : b = false := hbs (by kernel_rfl)
              have hC : RowKit.Below w5.heap.size w5 w1 := hC
              obtain ⟨va, vb, h11, hlr⟩ : LookA w1 (((⟨xi, (setF ⟨xi, ns⟩ s).ns⟩, (A10, nx, c10)) : Om) :: (hs ++ ws)) ⟨shareL t.hs xi s, t.ws⟩ (u 13) := hd 13 rfl
              obtain ⟨Aa, na, ca, Ab, nb, cb, hva, hvb⟩ := hlr.slices
              subst hva hvb
              have HSp := HSP.out.below hC
              have HRr := HRR.out.below hC
              have hc0 := HSp.cell 0
              have hc1 := HSp.cell 1
              have hf0 := HSp.frozen 0
              have hf1 := HSp.frozen 1
              have hlp := HSp.lt
              simp at hc0 hc1
              skip
              simp only [h11] at hK ⊢
              go_simp
              refine hK undef _ (Kp.store HSp _ _) ⟨_, _, by simpa using (HSp.put 0 (.slice Aa na ca)).put 1 (.slice Ab nb cb), (HRr.far (p := ⟨p, 0, none⟩) hpr (.slice Aa na ca)).far (p := ⟨p, 1, none⟩) hpr (.slice Ab nb cb), hlr.kp (Kp.store HSp _ _), ?_, fun y hy => wish_store HSp ⟨(HWA.out y hy).1.below hC, (HWA.out y hy).2.below hC⟩ _ _⟩ trivial
              exact ((HB.out.trans (hC.mono HB.out.size)).setCell (p := ⟨p, 0, none⟩) hp0 _).setCell (p := ⟨p, 1, none⟩) hp0 _
            · intro u w1 b hC hbs hd K hK
              have h12 : OwnI w1 w5.heap.size (u 14) (P43.look ⟨shareL t.hs xi s, t.ws⟩).2 := hd 14 rfl
              simp only [List.set_cons_succ, List.set_cons_zero] at hK ⊢
              go_simp
              exact hK _ _ (Kp.same _) (by cases b <;> exact hC) h12
          · intro u wt hC hf
            obtain ⟨va, vb, hbp, hbr, hlr, hlow, hwt⟩ : Boxed2 w wt p r (((⟨xi, (setF ⟨xi, ns⟩ s).ns⟩, (A10, nx, c10)) : Om) :: (hs ++ ws)) ⟨shareL t.hs xi s, t.ws⟩ := hC
            have h14 : OwnI wt w5.heap.size (u 16) (P43.look ⟨shareL t.hs xi s, t.ws⟩).2 := hf 16 (by decide)
            simp only [putAll, Act.put, List.setIfInBounds_toArray, List.set_cons_succ, List.set_cons_zero, Nat.zero_add, Nat.reduceAdd]
            obtain ⟨Aa, na, ca, Ab, nb, cb, hva, hvb⟩ := hlr.slices
            subst hva hvb
            have HV5 := Lib.hid (h14.base HB.out.size)
            have HSp := Lib.hid hbp
            have HRr := Lib.hid hbr
            have HBe := Lib.hid hlow
            have HTR := Lib.hid (hlr.rtt hwt)
            obtain ⟨vo, hvo⟩ : ∃ vo, u 16 = vo := ⟨_, rfl⟩
            rw [hvo] at HV5 ⊢
            clear hlr h14 hf hvo hbp hbr hlow hwt
            have HE := Lib.hid (tab_end2 HRr.out hr0 HTR.out HV5.out HBe.out)
            have hcr0 := HRr.out.cell 0
            have hcr1 := HRr.out.cell 1
            have hfr0 := HRr.out.frozen 0
            have hfr1 := HRr.out.frozen 1
            have hrl := HRr.out.lt
            have HPL := Lib.hid (show ∀ (j : Nat) (u : Value), (#[.slice Aa na ca, .slice Ab nb cb] : Array Value)[j]? = some u → wt.cell? ((⟨p, 0, none⟩ : Addr).add j) = some u from HSp.out.add)
            simp at hcr0 hcr1
            go_wp2_with (refine wpList_load_cells rfl tTb (.tmp 3) rfl ⟨p, 0, none⟩ rfl _ _ HPL.out Tryz.underlying29 rfl hlenT ?_)
            rw [HREL.out]
            exact bodyPost_ret (v := .tuple #[.agg #[.slice Aa na ca, .slice Ab nb cb], vo, .int .i64 0]) (by simp [results, Tryz.results10, go_sem, hcr0, hcr1]) rfl ⟨_, _, _, rfl, HE.out.1, HE.out.2.1, HE.out.2.2⟩
end Go.Proofs.YtojbddcbnnbklaaGreatDoor
namespace Go.Proofs.YtojbddcbnnbklaaGreatDoor
open Go.RowKit P43 Go.Sort
attribute [local go_sem] ByteArray.mk_append_mk ByteArray.extract_mk mk_index
attribute [local irreducible] wpQuiet

theorem rt_more {r t : T} (h : RT r t) (c : Cl) : RT ⟨r.hs, r.ws ++ [c]⟩ ⟨t.hs, t.ws ++ [c]⟩ := ⟨h.by_, h.perm, by show r.ws ++ [c] = _; rw [h.wait]⟩
theorem rt_blk {r t : T} (h : RT r t) (c : Cl) : P43.blk (t.hs ++ t.ws) c = [] ↔ P43.blk r.hs c = [] ∧ P43.blk r.ws c = [] := by
  rw [blk_nil_app, blk_nil_perm h.perm c, h.wait]
def LenV (n : Nat) (v : Value) : Prop := ∃ A c, v = .slice A n c
set_option maxRecDepth 100000 in
set_option maxHeartbeats 16000000 in
theorem refRequest (v1 v2 : Value) (t : T) (o : Int) (A : Option Addr) (n c : Nat) (l : List (Nm × Bool)) (w : World) (h : RTT w v1 v2 t) (hn : t.hs.length + t.ws.length ≤ 80000) (hl : NlsAt w A n l) (hl1 : n ≤ 1000) (hq : ∀ q ∈ l, q.1.length ≤ 1000) :
    Calls Tryz.prog 8 #[.agg #[v1, v2], .int .i64 o, .slice A n c] w fun e w' => ∃ a b, e = .returned (.tuple #[.agg #[a, b], .bool (requestP validB t o l).2.1, .int .i64 (requestP validB t o l).2.2]) ∧ RTT w' a b (requestP validB t o l).1 ∧ Below w.heap.size w w' := by
  have H := Lib.hid h
  obtain ⟨hs, ws, ⟨A1, n1, c1, rfl, hh1, hh2, hh3⟩, ⟨A2, n2, c2, rfl, hw1, hw2, hw3⟩, hW, hR⟩ := id h
  have HR := Lib.hid hR
  have HWI := Lib.hid hW
  have HH1 := Lib.hid hh1
  have HW1 := Lib.hid hw1
  have HH0 := Lib.hid (show RsO w (.slice A1 n1 c1) hs from ⟨A1, n1, c1, rfl, hh1, hh2, hh3⟩)
  have HW0 := Lib.hid (show RsO w (.slice A2 n2 c2) ws from ⟨A2, n2, c2, rfl, hw1, hw2, hw3⟩)
  have HLN := Lib.hid (show hs.length + ws.length ≤ 80000 from by
    have h1 := hR.perm.length_eq
    have h2 := congrArg List.length hR.wait
    simp only [List.length_map] at h1 h2
    omega)
  have hln1 := hh1.len
  have hln2 := hw1.len
  have hl90 : n1 + n2 ≤ 80000 := by have := HLN.out; omega
  have HNL := Lib.hid hl
  have HQL := Lib.hid hq
  have HLL := Lib.hid hl.len
  have hlenT : (Tryz.prog.info? tTb).map (·.size) = some 2 := by kernel_rfl
  have hlenW : (Tryz.prog.info? tW).map (·.size) = some 2 := by kernel_rfl
  obtain ⟨i0, hi0, hz0, hz1', hz2⟩ := info_parts infoW
  have HI := Lib.hid hi0
  have HZ0 := Lib.hid hz0
  have HZ1 := Lib.hid hz1'
  have HZ2 := Lib.hid hz2
  clear h hn hl hq hh1 hh3 hw1 hw3 hW hR hi0 hz0 hz1' hz2
  go_enter Tryz.func8, Tryz.ntmps8
  go_upto_region 1 with (fail)
  obtain ⟨w1, p, r, e1, e2, e3, hb1, h1, h2⟩ := boxes2 w tTb #[.slice A1 n1 c1, .slice A2 n2 c2] #[.slice none 0 0, .slice none 0 0]
  rw [e1, e3, e2]
  have hp0 : w.heap.size ≤ p := by omega
  have hr0 : w.heap.size ≤ r := by omega
  have hpr : r ≠ p := by omega
  have HB1 := Lib.hid hb1
  have HS1 := Lib.hid h1
  have HR1 := Lib.hid h2
  have hz1 := hb1.size
  clear e1 e2 e3 hb1 h1 h2
  cases hwb : wishB validB l with
  | false =>
    have HWB := Lib.hid hwb
    have HREL := Lib.hid (show requestP validB t o l = (t, false, 1) from req_bad (by rw [hwb, Bool.and_false]))
    clear hwb
    go_upto_region 2 with (go_at_call 26; refine (refSorted A n c l w1 (HNL.out.below HB1.out) hl1 HQL.out).mono ?_; rintro e w3 ⟨vq, rfl, hvq, hb3⟩; rw [HWB.out] at hvq ⊢; have HVQ := Lib.hid hvq; have HB3 := Lib.hid (HB1.out.trans (hb3.mono hz1)); have HS3 := Lib.hid (HS1.out.below hb3); have HR3 := Lib.hid (HR1.out.below hb3); clear hvq hb3)
    by_cases ho1 : o < 1
    · go_upto_region 3 with (fail)
      have HPL := Lib.hid (show ∀ (j : Nat) (u : Value), (#[.slice A1 n1 c1, .slice A2 n2 c2] : Array Value)[j]? = some u → w3.cell? ((⟨p, 0, none⟩ : Addr).add j) = some u from HS3.out.add)
      have hcr0 := HR3.out.cell 0
      have hcr1 := HR3.out.cell 1
      simp at hcr0 hcr1
      have hfr0 := HR3.out.frozen 0
      have hfr1 := HR3.out.frozen 1
      have hrl := HR3.out.lt
      go_wp2_with (refine wpList_load_cells rfl tTb (.tmp 3) rfl ⟨p, 0, none⟩ rfl _ _ HPL.out Tryz.underlying29 rfl hlenT ?_)
      have HE := Lib.hid (tab_same hr0 H.out HB3.out)
      rw [HREL.out]
      exact bodyPost_ret (v := .tuple #[.agg #[.slice A1 n1 c1, .slice A2 n2 c2], .bool false, .int .i64 1]) (by simp [results, Tryz.results8, go_sem, hcr0, hcr1]) rfl ⟨_, _, rfl, HE.out.1, HE.out.2⟩
    · by_cases ho2 : 1099511627776 < o
      · go_upto_region 3 with (fail)
        have HPL := Lib.hid (show ∀ (j : Nat) (u : Value), (#[.slice A1 n1 c1, .slice A2 n2 c2] : Array Value)[j]? = some u → w3.cell? ((⟨p, 0, none⟩ : Addr).add j) = some u from HS3.out.add)
        have hcr0 := HR3.out.cell 0
        have hcr1 := HR3.out.cell 1
        simp at hcr0 hcr1
        have hfr0 := HR3.out.frozen 0
        have hfr1 := HR3.out.frozen 1
        have hrl := HR3.out.lt
        go_wp2_with (refine wpList_load_cells rfl tTb (.tmp 3) rfl ⟨p, 0, none⟩ rfl _ _ HPL.out Tryz.underlying29 rfl hlenT ?_)
        have HE := Lib.hid (tab_same hr0 H.out HB3.out)
        rw [HREL.out]
        exact bodyPost_ret (v := .tuple #[.agg #[.slice A1 n1 c1, .slice A2 n2 c2], .bool false, .int .i64 1]) (by simp [results, Tryz.results8, go_sem, hcr0, hcr1]) rfl ⟨_, _, rfl, HE.out.1, HE.out.2⟩
      · go_upto_region 3 with (fail)
        have HPL := Lib.hid (show ∀ (j : Nat) (u : Value), (#[.slice A1 n1 c1, .slice A2 n2 c2] : Array Value)[j]? = some u → w3.cell? ((⟨p, 0, none⟩ : Addr).add j) = some u from HS3.out.add)
        have hcr0 := HR3.out.cell 0
        have hcr1 := HR3.out.cell 1
        simp at hcr0 hcr1
        have hfr0 := HR3.out.frozen 0
        have hfr1 := HR3.out.frozen 1
        have hrl := HR3.out.lt
        go_wp2_with (refine wpList_load_cells rfl tTb (.tmp 3) rfl ⟨p, 0, none⟩ rfl _ _ HPL.out Tryz.underlying29 rfl hlenT ?_)
        have HE := Lib.hid (tab_same hr0 H.out HB3.out)
        rw [HREL.out]
        exact bodyPost_ret (v := .tuple #[.agg #[.slice A1 n1 c1, .slice A2 n2 c2], .bool false, .int .i64 1]) (by simp [results, Tryz.results8, go_sem, hcr0, hcr1]) rfl ⟨_, _, rfl, HE.out.1, HE.out.2⟩
  | true =>
    have HWB := Lib.hid hwb
    clear hwb
    go_upto_region 2 with (go_at_call 26; refine (refSorted A n c l w1 (HNL.out.below HB1.out) hl1 HQL.out).mono ?_; rintro e w3 ⟨vq, rfl, hvq, hb3⟩; rw [HWB.out] at hvq ⊢; have HVQ := Lib.hid hvq; have HB3 := Lib.hid (HB1.out.trans (hb3.mono hz1)); have HS3 := Lib.hid (HS1.out.below hb3); have HR3 := Lib.hid (HR1.out.below hb3); clear hvq hb3)
    by_cases ho1 : o < 1
    · have HREL := Lib.hid (show requestP validB t o l = (t, false, 1) from req_bad (by rw [decide_eq_false (by omega), Bool.false_and]))
      go_upto_region 3 with (fail)
      have HPL := Lib.hid (show ∀ (j : Nat) (u : Value), (#[.slice A1 n1 c1, .slice A2 n2 c2] : Array Value)[j]? = some u → w3.cell? ((⟨p, 0, none⟩ : Addr).add j) = some u from HS3.out.add)
      have hcr0 := HR3.out.cell 0
      have hcr1 := HR3.out.cell 1
      simp at hcr0 hcr1
      have hfr0 := HR3.out.frozen 0
      have hfr1 := HR3.out.frozen 1
      have hrl := HR3.out.lt
      go_wp2_with (refine wpList_load_cells rfl tTb (.tmp 3) rfl ⟨p, 0, none⟩ rfl _ _ HPL.out Tryz.underlying29 rfl hlenT ?_)
      have HE := Lib.hid (tab_same hr0 H.out HB3.out)
      rw [HREL.out]
      exact bodyPost_ret (v := .tuple #[.agg #[.slice A1 n1 c1, .slice A2 n2 c2], .bool false, .int .i64 1]) (by simp [results, Tryz.results8, go_sem, hcr0, hcr1]) rfl ⟨_, _, rfl, HE.out.1, HE.out.2⟩
    · by_cases ho2 : 1099511627776 < o
      · have HREL := Lib.hid (show requestP validB t o l = (t, false, 1) from req_bad (by rw [decide_eq_false (by omega), Bool.false_and]))
        go_upto_region 3 with (fail)
        have HPL := Lib.hid (show ∀ (j : Nat) (u : Value), (#[.slice A1 n1 c1, .slice A2 n2 c2] : Array Value)[j]? = some u → w3.cell? ((⟨p, 0, none⟩ : Addr).add j) = some u from HS3.out.add)
        have hcr0 := HR3.out.cell 0
        have hcr1 := HR3.out.cell 1
        simp at hcr0 hcr1
        have hfr0 := HR3.out.frozen 0
        have hfr1 := HR3.out.frozen 1
        have hrl := HR3.out.lt
        go_wp2_with (refine wpList_load_cells rfl tTb (.tmp 3) rfl ⟨p, 0, none⟩ rfl _ _ HPL.out Tryz.underlying29 rfl hlenT ?_)
        have HE := Lib.hid (tab_same hr0 H.out HB3.out)
        rw [HREL.out]
        exact bodyPost_ret (v := .tuple #[.agg #[.slice A1 n1 c1, .slice A2 n2 c2], .bool false, .int .i64 1]) (by simp [results, Tryz.results8, go_sem, hcr0, hcr1]) rfl ⟨_, _, rfl, HE.out.1, HE.out.2⟩
      · have HOK := Lib.hid (show (decide (1 ≤ o ∧ o ≤ 1099511627776) && wishB validB l) = true from by rw [HWB.out, decide_eq_true (by omega)]; rfl)
        have z0 := HS3.out.cell 0
        have z1 := HS3.out.cell 1
        simp at z0 z1
        have hle : (sortN l).length = n := by rw [← HLL.out]; exact (sortN_perm l).length_eq
        obtain ⟨Aq, cq, hvq, -, -⟩ := (HVQ.out trivial).cap
        rw [hle] at hvq
        subst hvq
        have HVN := Lib.hid (HVQ.out trivial)
        have HLE := Lib.hid hle
        clear hle HVQ
        rcases rIdx_first o hs with ⟨hi, hno⟩ | ⟨k, y, hi, hy, hid, -⟩
        · rcases rIdx_first o ws with ⟨hi2, hno2⟩ | ⟨k, y, hi2, hy, hid, -⟩
          · have HI1 := Lib.hid hi
            have HI2 := Lib.hid hi2
            have HINT := Lib.hid (inR_false HR.out hno hno2)
            clear hi hi2 hno hno2
            go_upto_region 6 with (first | (go_at_call 27; refine (refIndex A2 n2 c2 o ws w3' (HW1.out.below (HB3.out.trans (HB3'.out.mono HB3.out.size))) (by omega)).mono ?_; rintro e w4 ⟨rfl, hb4⟩; rw [HI2.out]; have HB4' := Lib.hid (HB3'.out.trans (hb4.mono HB3'.out.size)); clear hb4) | (go_at_call 27; refine (refIndex A1 n1 c1 o hs w3 (HH1.out.below HB3.out) (by omega)).mono ?_; rintro e w3' ⟨rfl, hb3⟩; rw [HI1.out]; have HB3' := Lib.hid hb3; have z1 := (HS3.out.below hb3).cell 1; simp at z1; clear hb3))
            have HB4 := Lib.hid (HB3.out.trans (HB4'.out.mono HB3.out.size))
            have HS4 := Lib.hid (HS3.out.below HB4'.out)
            have HR4 := Lib.hid (HR3.out.below HB4'.out)
            have HVN4 := Lib.hid (HVN.out.below2 HB4'.out)
            clear z0 z1 HB4' HB3 HS3 HR3 HVN HI1 HI2
            go_upto_region 7 with (fail)
            obtain ⟨w5, g, e1, e2, hb5, h5⟩ := boxes1 w4 tW (ra ((⟨o, sortN l⟩, (Aq, n, cq)) : Om))
            rw [show w4.alloc (.cells #[.int .i64 o, .slice Aq n cq] tW) = w5 from e1, e2]
            have HB5 := Lib.hid (HB4.out.trans (hb5.mono HB4.out.size))
            have HS5 := Lib.hid (HS4.out.below hb5)
            have HR5 := Lib.hid (HR4.out.below hb5)
            have HX5 := Lib.hid h5
            have hgp : g ≠ p := Blk.ne h5 HS5.out (by decide)
            have HWX := Lib.hid ((HVN4.out.below2 hb5).wish (o := o) HLE.out hl1)
            clear e1 e2 hb5 h5 HB4 HS4 HR4 HVN4
            obtain ⟨lh, hlh⟩ : ∃ lh, (sortZ (idsR (blkR hs (sortN l)))).length = lh := ⟨_, rfl⟩
            obtain ⟨lw, hlw⟩ : ∃ lw, (sortZ (idsR (blkR ws (sortN l)))).length = lw := ⟨_, rfl⟩
            have HA := Lib.hid hlh
            have HC := Lib.hid hlw
            have HAI := Lib.hid (show lh = 0 ↔ P43.blk (hs.map (·.1)) ⟨o, sortN l⟩ = [] from by rw [← hlh]; exact blk_len rfl)
            have HCI := Lib.hid (show lw = 0 ↔ P43.blk (ws.map (·.1)) ⟨o, sortN l⟩ = [] from by rw [← hlw]; exact blk_len rfl)
            have hb1 : lh ≤ 80000 := by
              have h1 := List.length_filter_le (fun y : Om => confL y.1.ns (sortN l)) hs
              rw [← hlh, len_sortZ]
              unfold idsR blkR
              rw [List.length_map]
              omega
            have hb2 : lw ≤ 80000 := by
              have h1 := List.length_filter_le (fun y : Om => confL y.1.ns (sortN l)) ws
              rw [← hlw, len_sortZ]
              unfold idsR blkR
              rw [List.length_map]
              omega
            have hwr := IntWalk.i64_in ((lh : Int) + (lw : Int)) (by omega)
            clear hlh hlw
            have hc0 := HS5.out.cell 0
            have hc1 := HS5.out.cell 1
            simp at hc0 hc1
            have HC0 := Lib.hid hc0
            have HC1 := Lib.hid hc1
            clear hc0 hc1
            refine wp_region_kill 11 11 (by kernel_rfl) (by kernel_rfl) (fun _ => none) (fun _ a b => RowKit.Below a.heap.size a b) (fun w1 => RowKit.Below w5.heap.size w5 w1)
              (fun i v w1 => match i with
                | 0 => v = .pointer (some ⟨p, 0, none⟩)
                | 1 => v = .slice A1 n1 c1
                | 2 => v = .slice Aq n cq
                | 3 => LenV lh v
                | 4 => v = .int .i64 lh
                | 5 => v = .pointer (some ⟨p, 1, none⟩)
                | 6 => v = .slice A2 n2 c2
                | 7 => v = .slice Aq n cq
                | 8 => LenV lw v
                | 9 => v = .int .i64 lw
                | 10 => v = .int .i64 ((lh : Int) + (lw : Int))
                | _ => True) (fun _ _ _ h1 h2 => h1.trans (h2.mono h1.size)) ?_ ((RowKit.Below.refl _ _).drew) ?_ ?_
            · intro kk ii vv w1 w2 _ _ hf hR
              match ii, hf with
              | 0, hf => exact hf
              | 1, hf => exact hf
              | 2, hf => exact hf
              | 3, hf => exact hf
              | 4, hf => exact hf
              | 5, hf => exact hf
              | 6, hf => exact hf
              | 7, hf => exact hf
              | 8, hf => exact hf
              | 9, hf => exact hf
              | 10, hf => exact hf
              | n + 11, _ => trivial
            · simp only [List.take_succ_cons, List.take_zero, putAll, Act.put, List.setIfInBounds_toArray, List.set_cons_succ, List.set_cons_zero, Nat.zero_add, Nat.reduceAdd]
              refine allOps_cons ?_ (allOps_cons ?_ (allOps_cons ?_ (allOps_cons ?_ (allOps_cons ?_ (allOps_cons ?_ (allOps_cons ?_ (allOps_cons ?_ (allOps_cons ?_ (allOps_cons ?_ (allOps_cons ?_ allOps_nil))))))))))
              · intro u w1 hC hd K hK
                simp only [List.set_cons_succ, List.set_cons_zero] at hK ⊢
                go_simp
                exact hK _ _ (RowKit.Below.refl _ _) rfl
              · intro u w1 hC hd K hK
                have h0 : u 0 = .pointer (some ⟨p, 0, none⟩) := hd 0 rfl rfl
                have hc1 : w1.cell? ⟨p, 0, none⟩ = some (.slice A1 n1 c1) := by rw [hC.cell (p := ⟨p, 0, none⟩) (World.block_lt_of_cell? w5 _ HC0.out)]; exact HC0.out
                simp only [List.set_cons_succ, List.set_cons_zero, h0] at hK ⊢
                go_simp
                exact hK _ _ (RowKit.Below.refl _ _) rfl
              · intro u w1 hC hd K hK
                simp only [List.set_cons_succ, List.set_cons_zero] at hK ⊢
                go_simp
                exact hK _ _ (RowKit.Below.refl _ _) rfl
              · intro u w1 hC hd K hK
                have h1 : u 1 = .slice A1 n1 c1 := hd 1 rfl rfl
                have h2 : u 2 = .slice Aq n cq := hd 2 rfl rfl
                simp only [List.set_cons_succ, List.set_cons_zero, h1, h2] at hK ⊢
                rw [if_pos (show Region.wanted _ _ = true from rfl)]
                go_simp
                refine (refBlocked A1 Aq n1 c1 n cq hs (sortN l) w1 ((HH1.out.below HB5.out).below hC) (fun y hy => ((HWI.out y (List.mem_append_left _ hy)).1.below HB5.out).below hC) (HWX.out.1.1.below hC) (by omega) hl1).mono ?_
                rintro e w' ⟨v, rfl, ho, hb⟩
                obtain ⟨A9, c9, e9, -, -⟩ := ho.zcells
                rw [HA.out] at e9
                exact hK v w' hb ⟨A9, c9, e9⟩
              · intro u w1 hC hd K hK
                obtain ⟨A9, c9, e9⟩ : LenV lh (u 3) := hd 3 rfl rfl
                simp only [e9] at hK ⊢
                simp only [List.set_cons_succ, List.set_cons_zero] at hK ⊢
                go_simp
                exact hK _ _ (RowKit.Below.refl _ _) rfl
              · intro u w1 hC hd K hK
                simp only [List.set_cons_succ, List.set_cons_zero] at hK ⊢
                go_simp
                exact hK _ _ (RowKit.Below.refl _ _) rfl
              · intro u w1 hC hd K hK
                have h5 : u 5 = .pointer (some ⟨p, 1, none⟩) := hd 5 rfl rfl
                have hc1 : w1.cell? ⟨p, 1, none⟩ = some (.slice A2 n2 c2) := by rw [hC.cell (p := ⟨p, 1, none⟩) (World.block_lt_of_cell? w5 _ HC1.out)]; exact HC1.out
                simp only [List.set_cons_succ, List.set_cons_zero, h5] at hK ⊢
                go_simp
                exact hK _ _ (RowKit.Below.refl _ _) rfl
              · intro u w1 hC hd K hK
                simp only [List.set_cons_succ, List.set_cons_zero] at hK ⊢
                go_simp
                exact hK _ _ (RowKit.Below.refl _ _) rfl
              · intro u w1 hC hd K hK
                have h6 : u 6 = .slice A2 n2 c2 := hd 6 rfl rfl
                have h7 : u 7 = .slice Aq n cq := hd 7 rfl rfl
                simp only [List.set_cons_succ, List.set_cons_zero, h6, h7] at hK ⊢
                rw [if_pos (show Region.wanted _ _ = true from rfl)]
                go_simp
                refine (refBlocked A2 Aq n2 c2 n cq ws (sortN l) w1 ((HW1.out.below HB5.out).below hC) (fun y hy => ((HWI.out y (List.mem_append_right _ hy)).1.below HB5.out).below hC) (HWX.out.1.1.below hC) (by omega) hl1).mono ?_
                rintro e w' ⟨v, rfl, ho, hb⟩
                obtain ⟨A9, c9, e9, -, -⟩ := ho.zcells
                rw [HC.out] at e9
                exact hK v w' hb ⟨A9, c9, e9⟩
              · intro u w1 hC hd K hK
                obtain ⟨A9, c9, e9⟩ : LenV lw (u 8) := hd 8 rfl rfl
                simp only [e9] at hK ⊢
                simp only [List.set_cons_succ, List.set_cons_zero] at hK ⊢
                go_simp
                exact hK _ _ (RowKit.Below.refl _ _) rfl
              · intro u w1 hC hd K hK
                have h4 : u 4 = .int .i64 lh := hd 4 rfl rfl
                have h9 : u 9 = .int .i64 lw := hd 9 rfl rfl
                simp only [List.set_cons_succ, List.set_cons_zero, h4, h9] at hK ⊢
                go_simp
                exact hK _ _ (RowKit.Below.refl _ _) rfl
            · intro u wt hC hf
              have h10 : u 10 = .int .i64 ((lh : Int) + (lw : Int)) := hf 10 (by decide) rfl
              simp only [List.take_succ_cons, List.take_zero, List.drop_succ_cons, List.drop_zero, putAll, Act.put, List.setIfInBounds_toArray, List.set_cons_succ, List.set_cons_zero, Nat.zero_add, Nat.reduceAdd]
              simp only [h10]
              have HB6 := Lib.hid (HB5.out.trans (hC.mono HB5.out.size))
              have HS6 := Lib.hid (HS5.out.below hC)
              have HR6 := Lib.hid (HR5.out.below hC)
              have HX6 := Lib.hid (HX5.out.below hC)
              have HWX6 := Lib.hid (show WishAt wt ((⟨o, sortN l⟩, (Aq, n, cq)) : Om) ∧ WishT wt ((⟨o, sortN l⟩, (Aq, n, cq)) : Om) from ⟨HWX.out.1.below hC, HWX.out.2.below hC⟩)
              clear h10 hf hC HC0 HC1 HS5 HR5 HX5 HWX HB5
              have HXR := Lib.hid (show ∀ (j : Nat) (u : Value), (#[.int .i64 o, .slice Aq n cq] : Array Value)[j]? = some u → wt.cell? ((⟨g, 0, none⟩ : Addr).add j) = some u from HX6.out.add)
              have z0 := HS6.out.cell 0
              have z1 := HS6.out.cell 1
              simp at z0 z1
              by_cases hz : lh = 0 ∧ lw = 0
              · obtain ⟨rfl, rfl⟩ := hz
                have HBK := Lib.hid (show P43.blk (t.hs ++ t.ws) ⟨o, sortN l⟩ = [] from (rt_blk HR.out _).2 ⟨HAI.out.1 rfl, HCI.out.1 rfl⟩)
                have HREL := Lib.hid (show requestP validB t o l = (⟨t.hs ++ [⟨o, sortN l⟩], t.ws⟩, true, 0) from by
                  unfold requestP enter
                  rw [if_neg (by rw [HOK.out]; simp), if_neg (by rw [HINT.out]; simp), if_pos HBK.out])
                clear HA HC HAI HCI hwr hb1 hb2
                go_upto_region 11 with (first | (refine wpList_load_cells rfl tW (.tmp 11) rfl ⟨g, 0, none⟩ rfl _ _ HXR.out Tryz.underlying68 rfl hlenW ?_) | (go_at_call 29; refine (refHold A1 n1 c1 ((⟨o, sortN l⟩, (Aq, n, cq)) : Om) hs wt (HH1.out.below HB6.out) hh2 (by omega)).mono ?_; rintro e w7 ⟨v7, rfl, hex, hb7⟩; obtain ⟨j, hij, ho7⟩ := hex; obtain ⟨A7, n7, c7, hv7⟩ := ho7.sl; subst hv7; have HIJ := Lib.hid hij; have HO7 := Lib.hid ho7; have HB7 := Lib.hid hb7; have HS7 := Lib.hid (HS6.out.below hb7); have hfr := HS7.out.frozen 0; have hcr := HS7.out.cell 0; have hpl := HS7.out.lt; simp at hcr; clear hij ho7 hb7))
                have HR7 := Lib.hid (HR6.out.below HB7.out)
                have HB7W := Lib.hid (HB6.out.trans (HB7.out.mono HB6.out.size))
                have HT7 := Lib.hid (show RTT w7 (.slice A7 n7 c7) (.slice A2 n2 c2) ⟨t.hs ++ [⟨o, sortN l⟩], t.ws⟩ from by
                  refine ⟨_, ws, .own HO7.out, HW0.out.below HB7W.out, fun y hy => ?_, ?_⟩
                  · rcases List.mem_append.1 hy with hy | hy
                    · rcases ins_mem hy with hy | rfl
                      · exact ⟨(HWI.out y (List.mem_append_left _ hy)).1.below HB7W.out, (HWI.out y (List.mem_append_left _ hy)).2.below HB7W.out⟩
                      · exact ⟨HWX6.out.1.below HB7.out, HWX6.out.2.below HB7.out⟩
                    · exact ⟨(HWI.out y (List.mem_append_right _ hy)).1.below HB7W.out, (HWI.out y (List.mem_append_right _ hy)).2.below HB7W.out⟩
                  · have h1 := insAt_fst (x := ((⟨o, sortN l⟩, (Aq, n, cq)) : Om)) HIJ.out
                    have h2 := HR.out.hold (c := ⟨o, sortN l⟩) h1.1
                    rw [h1.2]
                    exact h2)
                have HT8 := Lib.hid (HT7.out.setCell (q := ⟨p, 0, none⟩) HS7.out (by decide) (by decide) (.slice A7 n7 c7))
                have HS8 := Lib.hid (show Blk (w7.setCell ⟨p, 0, none⟩ (.slice A7 n7 c7)) p tTb #[.slice A7 n7 c7, .slice A2 n2 c2] from by simpa using HS7.out.put 0 (.slice A7 n7 c7))
                have HR8 := Lib.hid (HR7.out.far (p := ⟨p, 0, none⟩) hpr (.slice A7 n7 c7))
                have HB8 := Lib.hid (HB7W.out.setCell (p := ⟨p, 0, none⟩) hp0 (.slice A7 n7 c7))
                generalize w7.setCell ⟨p, 0, none⟩ _ = w8 at HT8 HS8 HR8 HB8 ⊢
                clear hfr hcr hpl z0 z1
                have HPL := Lib.hid (show ∀ (j : Nat) (u : Value), (#[.slice A7 n7 c7, .slice A2 n2 c2] : Array Value)[j]? = some u → w8.cell? ((⟨p, 0, none⟩ : Addr).add j) = some u from HS8.out.add)
                have hcr0 := HR8.out.cell 0
                have hcr1 := HR8.out.cell 1
                simp at hcr0 hcr1
                have hfr0 := HR8.out.frozen 0
                have hfr1 := HR8.out.frozen 1
                have hrl := HR8.out.lt
                have HE := Lib.hid ((HT8.out.setCell (q := ⟨r, 0, none⟩) HR8.out (by decide) (by decide) (.slice A7 n7 c7)).setCell (q := ⟨r, 1, none⟩) (HR8.out.put 0 (.slice A7 n7 c7)) (by decide) (by decide) (.slice A2 n2 c2))
                have HF := Lib.hid ((HB8.out.setCell (p := ⟨r, 0, none⟩) hr0 (.slice A7 n7 c7)).setCell (p := ⟨r, 1, none⟩) hr0 (.slice A2 n2 c2))
                go_wp2_with (refine wpList_load_cells rfl tTb (.tmp 3) rfl ⟨p, 0, none⟩ rfl _ _ HPL.out Tryz.underlying29 rfl hlenT ?_)
                rw [HREL.out]
                exact bodyPost_ret (v := .tuple #[.agg #[.slice A7 n7 c7, .slice A2 n2 c2], .bool true, .int .i64 0]) (by simp [results, Tryz.results8, go_sem, hcr0, hcr1]) rfl ⟨_, _, rfl, HE.out, HF.out⟩
              · have hpos : (0 : Int) < (lh : Int) + (lw : Int) := by omega
                have HBK := Lib.hid (show ¬ P43.blk (t.hs ++ t.ws) ⟨o, sortN l⟩ = [] from fun e => hz ⟨HAI.out.2 ((rt_blk HR.out _).1 e).1, HCI.out.2 ((rt_blk HR.out _).1 e).2⟩)
                have HREL := Lib.hid (show requestP validB t o l = (⟨t.hs, t.ws ++ [⟨o, sortN l⟩]⟩, false, 0) from by
                  unfold requestP enter
                  rw [if_neg (by rw [HOK.out]; simp), if_neg (by rw [HINT.out]; simp), if_neg HBK.out])
                clear HA HC HAI HCI hwr hb1 hb2 hz
                go_upto_region 8 with (fail)
                have HC1 := Lib.hid z1
                clear z0 z1
                refine wp_region_kill 6 8 (by kernel_rfl) (by kernel_rfl) (fun i => match i with | 0 => some 6 | 3 => some 6 | 5 => some 6 | _ => none) (RK wt.heap.size 6) (fun w1 => Below wt.heap.size wt w1)
                  (fun i v w1 => match i with
                    | 0 => EmptyAt w1 wt.heap.size tW v
                    | 1 => v = .pointer (some ⟨p, 1, none⟩)
                    | 2 => v = .slice A2 n2 c2
                    | 3 => RowAt w1 wt.heap.size tW 2 n2 (rcs ws) v
                    | 4 => v = .agg (ra ((⟨o, sortN l⟩, (Aq, n, cq)) : Om))
                    | 5 => OneAt w1 tW (ra ((⟨o, sortN l⟩, (Aq, n, cq)) : Om)) v
                    | 6 => RowAt w1 wt.heap.size tW 2 (n2 + 1) (rcs ws ++ rc ((⟨o, sortN l⟩, (Aq, n, cq)) : Om)) v
                    | 7 => v = .pointer (some ⟨p, 1, none⟩)
                    | _ => True) (fun _ _ _ h1 h2 => RK.keep h1 h2) ?_ ((Below.refl _ _).drew) ?_ ?_
                · intro kk ii vv w1 w2 hik hk hf hR
                  match ii, hik, hk, hf with
                  | 0, _, hk, hf => exact EmptyAt.below hf (RK.at_ hR (fun e => hk (by subst e; rfl)))
                  | 1, _, _, hf => exact hf
                  | 2, _, _, hf => exact hf
                  | 3, _, hk, hf => exact RowAt.below hf (RK.at_ hR (fun e => hk (by subst e; rfl)))
                  | 4, _, _, hf => exact hf
                  | 5, _, hk, hf => exact OneAt.below hf (RK.at_ hR (fun e => hk (by subst e; rfl)))
                  | 6, hik, _, hf => exact RowAt.below hf (RK.at_ hR (Ne.symm hik))
                  | 7, _, _, hf => exact hf
                  | n + 8, _, _, _ => trivial
                · refine allOps_cons ?_ (allOps_cons ?_ (allOps_cons ?_ (allOps_cons ?_ (allOps_cons ?_ (allOps_cons ?_ (allOps_cons ?_ (allOps_cons ?_ allOps_nil)))))))
                  · intro u w1 hC hd K hK
                    simp only [List.take_succ_cons, List.take_zero, putAll, Act.put, List.setIfInBounds_toArray, List.set_cons_succ, List.set_cons_zero, Nat.zero_add, Nat.reduceAdd] at hK ⊢
                    go_simp
                    exact hK _ _ (RK.below (below_alloc (Below.refl _ _) _) (by decide)) (EmptyAt.new _ _ hC.size)
                  · intro u w1 hC hd K hK
                    simp only [List.take_succ_cons, List.take_zero, putAll, Act.put, List.setIfInBounds_toArray, List.set_cons_succ, List.set_cons_zero, Nat.zero_add, Nat.reduceAdd] at hK ⊢
                    go_simp
                    exact hK _ _ (RK.same (by decide)) rfl
                  · intro u w1 hC hd K hK
                    have h1 : u 1 = .pointer (some ⟨p, 1, none⟩) := hd 1 rfl rfl
                    have hc1 : w1.cell? ⟨p, 1, none⟩ = some (.slice A2 n2 c2) := by rw [hC.cell (p := ⟨p, 1, none⟩) (World.block_lt_of_cell? wt _ HC1.out)]; exact HC1.out
                    simp only [List.take_succ_cons, List.take_zero, putAll, Act.put, List.setIfInBounds_toArray, List.set_cons_succ, List.set_cons_zero, Nat.zero_add, Nat.reduceAdd, h1] at hK ⊢
                    go_simp
                    exact hK _ _ (RK.same (by decide)) rfl
                  · intro u w1 hC hd K hK
                    have h2 : u 2 = .slice A2 n2 c2 := hd 2 rfl rfl
                    obtain ⟨g0, hg0, hg1, hg2⟩ := hd 0 rfl rfl
                    simp only [List.take_succ_cons, List.take_zero, putAll, Act.put, List.setIfInBounds_toArray, List.set_cons_succ, List.set_cons_zero, Nat.zero_add, Nat.reduceAdd, h2] at hK ⊢
                    rw [if_pos (show Region.wanted _ _ = true from rfl)]
                    refine wp_append_empty w1 (.tmp 56) (.tmp 58) 27 rfl tW i0 _ 2 32 Tryz.underlying27 HI.out HZ0.out HZ1.out HZ2.out rfl (by omega) g0 wt.heap.size hg0 hg1 hg2 A2 n2 c2 _ rfl ((HW1.out.below HB6.out).below hC) (rcs_one _) (by unfold maxLen; omega) (by omega) ?_
                    intro v' w2 hown2 hb2
                    exact hK v' w2 (RK.below hb2 (by decide)) hown2
                  · intro u w1 hC hd K hK
                    simp only [List.take_succ_cons, List.take_zero, putAll, Act.put, List.setIfInBounds_toArray, List.set_cons_succ, List.set_cons_zero, Nat.zero_add, Nat.reduceAdd] at hK ⊢
                    rw [if_pos (show Region.wanted _ _ = true from rfl)]
                    exact wp_load_cells tW (.tmp 11) rfl ⟨g, 0, none⟩ rfl (ra ((⟨o, sortN l⟩, (Aq, n, cq)) : Om)) _ ((HX6.out.below hC).add) Tryz.underlying68 rfl hlenW (hK _ _ (RK.same (by decide)) rfl)
                  · intro u w1 hC hd K hK
                    have h4 : u 4 = .agg (ra ((⟨o, sortN l⟩, (Aq, n, cq)) : Om)) := hd 4 rfl rfl
                    simp only [List.take_succ_cons, List.take_zero, putAll, Act.put, List.setIfInBounds_toArray, List.set_cons_succ, List.set_cons_zero, Nat.zero_add, Nat.reduceAdd, h4] at hK ⊢
                    unfold ra at hK ⊢
                    go_simp
                    exact hK _ _ (RK.below (below_alloc (Below.refl _ _) _) (by decide)) (OneAt.new _ _ _)
                  · intro u w1 hC hd K hK
                    have h4 : RowAt w1 wt.heap.size tW 2 n2 (rcs ws) (u 3) := hd 3 rfl rfl
                    obtain ⟨g1, hg0, hg1⟩ := hd 5 rfl rfl
                    simp only [List.take_succ_cons, List.take_zero, putAll, Act.put, List.setIfInBounds_toArray, List.set_cons_succ, List.set_cons_zero, Nat.zero_add, Nat.reduceAdd] at hK ⊢
                    rw [if_pos (show Region.wanted _ _ = true from rfl)]
                    refine wp_append_own (.tmp 59) (.tmp 61) 27 rfl wt.heap.size tW i0 _ 2 32 Tryz.underlying27 HI.out HZ0.out HZ1.out HZ2.out rfl (by omega) (u 3) n2 _ rfl h4 (some ⟨g1, 0, none⟩) 1 1 (rc ((⟨o, sortN l⟩, (Aq, n, cq)) : Om)) hg0 (fun e => by cases e) (one_cells' hg1 rfl rfl) (rc_one _) (by unfold maxLen; omega) (by omega) hC.size ?_
                    intro v' w2 hr hg
                    exact hK v' w2 (RK.grown hg (row_base h4)) hr
                  · intro u w1 hC hd K hK
                    simp only [List.take_succ_cons, List.take_zero, putAll, Act.put, List.setIfInBounds_toArray, List.set_cons_succ, List.set_cons_zero, Nat.zero_add, Nat.reduceAdd] at hK ⊢
                    go_simp
                    exact hK _ _ (RK.same (by decide)) rfl
                · intro u w9 hC hf
                  have h6 : RowAt w9 wt.heap.size tW 2 (n2 + 1) (rcs ws ++ rc ((⟨o, sortN l⟩, (Aq, n, cq)) : Om)) (u 6) := hf 6 (by decide) rfl
                  have h7 : u 7 = .pointer (some ⟨p, 1, none⟩) := hf 7 (by decide) rfl
                  have HO9 := Lib.hid (show OwnR w9 wt.heap.size tW (u 6) (ws ++ [((⟨o, sortN l⟩, (Aq, n, cq)) : Om)]) from by
                    unfold OwnR
                    rw [List.length_append, rcs_append, hln2]
                    unfold RowAt at h6
                    simpa [rcs] using h6)
                  obtain ⟨A9, n9, c9, hv9⟩ := HO9.out.sl
                  have HC9 := Lib.hid hC
                  simp only [List.take_succ_cons, List.take_zero, putAll, Act.put, List.setIfInBounds_toArray, List.set_cons_succ, List.set_cons_zero, Nat.zero_add, Nat.reduceAdd]
                  simp only [h7, hv9]
                  rw [hv9] at HO9
                  have HS9 := Lib.hid (HS6.out.below HC9.out)
                  have HR9 := Lib.hid (HR6.out.below HC9.out)
                  have HB9 := Lib.hid (HB6.out.trans (HC9.out.mono HB6.out.size))
                  have hfr := HS9.out.frozen 1
                  have hcr := HS9.out.cell 1
                  have hpl := HS9.out.lt
                  simp at hcr
                  clear h6 h7 hf hC hv9
                  go_upto_region 9 with (fail)
                  have HT9 := Lib.hid (show RTT w9 (.slice A1 n1 c1) (.slice A9 n9 c9) ⟨t.hs, t.ws ++ [⟨o, sortN l⟩]⟩ from by
                    refine ⟨hs, _, HH0.out.below HB9.out, .own HO9.out, fun y hy => ?_, ?_⟩
                    · rw [← List.append_assoc] at hy
                      rcases List.mem_append.1 hy with hy | hy
                      · exact ⟨(HWI.out y hy).1.below HB9.out, (HWI.out y hy).2.below HB9.out⟩
                      · rw [List.mem_singleton.1 hy]
                        exact ⟨HWX6.out.1.below HC9.out, HWX6.out.2.below HC9.out⟩
                    · rw [List.map_append]
                      exact rt_more HR.out ⟨o, sortN l⟩)
                  have HT8 := Lib.hid (HT9.out.setCell (q := ⟨p, 1, none⟩) HS9.out (by decide) (by decide) (.slice A9 n9 c9))
                  have HS8 := Lib.hid (show Blk (w9.setCell ⟨p, 1, none⟩ (.slice A9 n9 c9)) p tTb #[.slice A1 n1 c1, .slice A9 n9 c9] from by simpa using HS9.out.put 1 (.slice A9 n9 c9))
                  have HR8 := Lib.hid (HR9.out.far (p := ⟨p, 1, none⟩) hpr (.slice A9 n9 c9))
                  have HB8 := Lib.hid (HB9.out.setCell (p := ⟨p, 1, none⟩) hp0 (.slice A9 n9 c9))
                  generalize w9.setCell ⟨p, 1, none⟩ _ = w8 at HT8 HS8 HR8 HB8 ⊢
                  clear hfr hcr hpl
                  have HPL := Lib.hid (show ∀ (j : Nat) (u : Value), (#[.slice A1 n1 c1, .slice A9 n9 c9] : Array Value)[j]? = some u → w8.cell? ((⟨p, 0, none⟩ : Addr).add j) = some u from HS8.out.add)
                  have hcr0 := HR8.out.cell 0
                  have hcr1 := HR8.out.cell 1
                  simp at hcr0 hcr1
                  have hfr0 := HR8.out.frozen 0
                  have hfr1 := HR8.out.frozen 1
                  have hrl := HR8.out.lt
                  have HE := Lib.hid ((HT8.out.setCell (q := ⟨r, 0, none⟩) HR8.out (by decide) (by decide) (.slice A1 n1 c1)).setCell (q := ⟨r, 1, none⟩) (HR8.out.put 0 (.slice A1 n1 c1)) (by decide) (by decide) (.slice A9 n9 c9))
                  have HF := Lib.hid ((HB8.out.setCell (p := ⟨r, 0, none⟩) hr0 (.slice A1 n1 c1)).setCell (p := ⟨r, 1, none⟩) hr0 (.slice A9 n9 c9))
                  go_wp2_with (refine wpList_load_cells rfl tTb (.tmp 3) rfl ⟨p, 0, none⟩ rfl _ _ HPL.out Tryz.underlying29 rfl hlenT ?_)
                  rw [HREL.out]
                  exact bodyPost_ret (v := .tuple #[.agg #[.slice A1 n1 c1, .slice A9 n9 c9], .bool false, .int .i64 0]) (by simp [results, Tryz.results8, go_sem, hcr0, hcr1]) rfl ⟨_, _, rfl, HE.out, HF.out⟩
          · have HI1 := Lib.hid hi
            have HI2 := Lib.hid hi2
            have HINT := Lib.hid (inR_true HR.out (List.mem_append_right _ (List.mem_of_getElem? hy)) hid)
            have HREL := Lib.hid (show requestP validB t o l = (t, false, 5) from by unfold requestP; rw [if_neg (by rw [HOK.out]; simp), if_pos HINT.out])
            have hkk : (0 : Int) ≤ (k : Int) := by omega
            clear hi hi2 hno hy hid
            go_upto_region 5 with (first | (go_at_call 27; refine (refIndex A2 n2 c2 o ws w3' (HW1.out.below (HB3.out.trans (HB3'.out.mono HB3.out.size))) (by omega)).mono ?_; rintro e w4 ⟨rfl, hb4⟩; rw [HI2.out]; have HB4' := Lib.hid (HB3'.out.trans (hb4.mono HB3'.out.size)); clear hb4) | (go_at_call 27; refine (refIndex A1 n1 c1 o hs w3 (HH1.out.below HB3.out) (by omega)).mono ?_; rintro e w3' ⟨rfl, hb3⟩; rw [HI1.out]; have HB3' := Lib.hid hb3; have z1 := (HS3.out.below hb3).cell 1; simp at z1; clear hb3))
            have HB4 := Lib.hid (HB3.out.trans (HB4'.out.mono HB3.out.size))
            have HS4 := Lib.hid (HS3.out.below HB4'.out)
            have HR4 := Lib.hid (HR3.out.below HB4'.out)
            clear z0 z1 HB4'
            have HPL := Lib.hid (show ∀ (j : Nat) (u : Value), (#[.slice A1 n1 c1, .slice A2 n2 c2] : Array Value)[j]? = some u → w4.cell? ((⟨p, 0, none⟩ : Addr).add j) = some u from HS4.out.add)
            have hcr0 := HR4.out.cell 0
            have hcr1 := HR4.out.cell 1
            simp at hcr0 hcr1
            have hfr0 := HR4.out.frozen 0
            have hfr1 := HR4.out.frozen 1
            have hrl := HR4.out.lt
            go_wp2_with (refine wpList_load_cells rfl tTb (.tmp 3) rfl ⟨p, 0, none⟩ rfl _ _ HPL.out Tryz.underlying29 rfl hlenT ?_)
            have HE := Lib.hid (tab_same hr0 H.out HB4.out)
            rw [HREL.out]
            exact bodyPost_ret (v := .tuple #[.agg #[.slice A1 n1 c1, .slice A2 n2 c2], .bool false, .int .i64 5]) (by simp [results, Tryz.results8, go_sem, hcr0, hcr1]) rfl ⟨_, _, rfl, HE.out.1, HE.out.2⟩
        · have HI1 := Lib.hid hi
          have HINT := Lib.hid (inR_true HR.out (List.mem_append_left _ (List.mem_of_getElem? hy)) hid)
          have HREL := Lib.hid (show requestP validB t o l = (t, false, 5) from by unfold requestP; rw [if_neg (by rw [HOK.out]; simp), if_pos HINT.out])
          have hkk : (0 : Int) ≤ (k : Int) := by omega
          clear hi hy hid
          go_upto_region 5 with (go_at_call 27; refine (refIndex A1 n1 c1 o hs w3 (HH1.out.below HB3.out) (by omega)).mono ?_; rintro e w3' ⟨rfl, hb3⟩; rw [HI1.out]; have HB3' := Lib.hid hb3; have z1 := (HS3.out.below hb3).cell 1; simp at z1; clear hb3)
          have HS4 := Lib.hid (HS3.out.below HB3'.out)
          have HR4 := Lib.hid (HR3.out.below HB3'.out)
          have HB4 := Lib.hid (HB3.out.trans (HB3'.out.mono HB3.out.size))
          clear z0 z1
          have HPL := Lib.hid (show ∀ (j : Nat) (u : Value), (#[.slice A1 n1 c1, .slice A2 n2 c2] : Array Value)[j]? = some u → w3'.cell? ((⟨p, 0, none⟩ : Addr).add j) = some u from HS4.out.add)
          have hcr0 := HR4.out.cell 0
          have hcr1 := HR4.out.cell 1
          simp at hcr0 hcr1
          have hfr0 := HR4.out.frozen 0
          have hfr1 := HR4.out.frozen 1
          have hrl := HR4.out.lt
          go_wp2_with (refine wpList_load_cells rfl tTb (.tmp 3) rfl ⟨p, 0, none⟩ rfl _ _ HPL.out Tryz.underlying29 rfl hlenT ?_)
          have HE := Lib.hid (tab_same hr0 H.out HB4.out)
          rw [HREL.out]
          exact bodyPost_ret (v := .tuple #[.agg #[.slice A1 n1 c1, .slice A2 n2 c2], .bool false, .int .i64 5]) (by simp [results, Tryz.results8, go_sem, hcr0, hcr1]) rfl ⟨_, _, rfl, HE.out.1, HE.out.2⟩
end Go.Proofs.YtojbddcbnnbklaaGreatDoor
namespace Go.Proofs.YtojbddcbnnbklaaGreatDoor
open Go.RowKit

/-- Each operation ahead of number k is waited for by a later one, up to k. -/
def lastB (ops : Array Oper) (k : Nat) : Bool := (List.range k).all fun j => (List.range (k + 1)).any fun m => decide (j < m) && (match ops[m]? with | some o => waits o j | none => false)
theorem reachB_mono {ops : Array Oper} : ∀ (f k j : Nat), reachB ops f k j = true → reachB ops (f + 1) k j = true
  | 0, _, _, h => by cases h
  | f + 1, k, j, h => by
    rw [reachB] at h ⊢
    cases ho : ops[k]? with
    | none => rw [ho] at h; cases h
    | some o =>
      rw [ho] at h
      simp only [Array.any_eq_true, Bool.and_eq_true, Bool.or_eq_true, beq_iff_eq] at h ⊢
      obtain ⟨x, hx, h1, h2⟩ := h
      exact ⟨x, hx, h1, h2.imp id (fun h => reachB_mono f _ _ h)⟩
theorem reachB_up {ops : Array Oper} {f k j : Nat} (h : reachB ops f k j = true) : ∀ d, reachB ops (f + d) k j = true
  | 0 => h
  | d + 1 => reachB_mono _ _ _ (reachB_up h d)
theorem reachB_one {ops : Array Oper} {k j : Nat} {o : Oper} (ho : ops[k]? = some o) (hw : waits o j = true) (f : Nat) : reachB ops (f + 1) k j = true := by
  rw [reachB, ho]
  rw [waits_arr] at hw
  simp only [Array.any_eq_true, Bool.and_eq_true, Bool.or_eq_true, beq_iff_eq] at hw ⊢
  obtain ⟨x, hx, h1, h2⟩ := hw
  exact ⟨x, hx, h2, .inl h1⟩
theorem reachB_snoc {ops : Array Oper} {m j : Nat} {o : Oper} (ho : ops[m]? = some o) (hw : waits o j = true) : ∀ (f k : Nat), reachB ops f k m = true → reachB ops (f + 1) k j = true
  | 0, _, h => by cases h
  | f + 1, k, h => by
    rw [reachB] at h ⊢
    cases hk : ops[k]? with
    | none => rw [hk] at h; cases h
    | some o' =>
      rw [hk] at h
      simp only [Array.any_eq_true, Bool.and_eq_true, Bool.or_eq_true, beq_iff_eq] at h ⊢
      obtain ⟨x, hx, h1, h2⟩ := h
      refine ⟨x, hx, h1, .inr ?_⟩
      rcases h2 with h2 | h2
      · rw [h2]
        exact reachB_one ho hw f
      · exact reachB_snoc ho hw f _ h2
theorem tailB_last {ops : Array Oper} {k : Nat} (hs : ops.size = k + 1) (h : lastB ops k = true) : tailB ops (k + 1) k = true := by
  have key : ∀ d j, j < k → k - j ≤ d → reachB ops d k j = true := by
    intro d
    induction d with
    | zero => intro j hj hd; omega
    | succ d ih =>
      intro j hj hd
      have h1 := List.all_eq_true.1 h j (List.mem_range.2 hj)
      obtain ⟨m, hm, h2⟩ := List.any_eq_true.1 h1
      simp only [Bool.and_eq_true, decide_eq_true_eq] at h2
      obtain ⟨hjm, h3⟩ := h2
      have hmk := List.mem_range.1 hm
      cases ho : ops[m]? with
      | none => rw [ho] at h3; cases h3
      | some o =>
        rw [ho] at h3
        by_cases hmk2 : m = k
        · subst hmk2
          exact reachB_one ho h3 d
        · exact reachB_snoc ho h3 d k (ih m (by omega) (by omega))
  unfold tailB
  rw [List.all_eq_true]
  intro i hi
  have hi' := List.mem_range.1 hi
  by_cases hik : i < k
  · simp [hik]
  · have hik2 : i = k := by omega
    subst hik2
    simp only [Bool.or_eq_true, decide_eq_true_eq]
    refine .inr (List.all_eq_true.2 fun j hj => ?_)
    have hj' := List.mem_range.1 hj
    have := reachB_up (key (i - j) j hj' (Nat.le_refl _)) (i + 1 - (i - j))
    rwa [show i - j + (i + 1 - (i - j)) = i + 1 from by omega] at this
/-- A region that draws its order and only reads and makes memory, one operation at its end; its frame, once. -/
theorem wp_region_frame {P : Program} {ops : Array Oper} {Q : Exit → Act → World → Prop} {id : Nat} {a : Act} {w : World} {F : (Nat → Value) → Act} (N : Nat) (hm : P.follows .mixedOrders = true) (hB : (backB 0 ops.toList && lastB ops N && decide (ops.size = N + 1) && apartB (ops.toList.take N)) = true) (C : World → Prop) (Fact : Nat → Value → World → Prop)
    (hCR : ∀ w w', C w → Below w.heap.size w w' → C w') (hFR : ∀ i v w w', Fact i v w → Below w.heap.size w w' → Fact i v w') (hC : C { w with drawn := w.drawn + 1 }) (hF : ∀ u, putAll a (ops.toList.take N) u 0 = F u)
    (hops : allOps (fun i o => ∀ u w, C w → (∀ j, waits o j = true → Fact j (u j) w) → ∀ K : Act → World → Prop, (∀ v w', Below w.heap.size w w' → Fact i v w' → K ((F u).put o.dst v) w') →
      if Region.wanted o (yielded ops (F u).tmps) then o.wp P (F u) w K Q else K ((F u).put o.dst undef) w) 0 (ops.toList.take N))
    (hQ : ∀ u w', C w' → (∀ i, i < N → Fact i (u i) w') → wpList P ops Q (ops.toList.drop N) (F u) w') : (Code.region id ops true).wp P Q a w := by
  simp only [Bool.and_eq_true, decide_eq_true_eq] at hB
  obtain ⟨⟨⟨hb1, hb2⟩, hb3⟩, hb4⟩ := hB
  have hlt : N < ops.size := by omega
  refine wp_region_kill (N + 1) N hm (by simp only [Bool.and_eq_true, decide_eq_true_eq]; exact ⟨⟨⟨hb1, tailB_last hb3 hb2⟩, hlt⟩, hb4⟩) (fun _ => none) (fun _ a b => Below a.heap.size a b) C Fact (fun _ _ _ => hCR _ _) (fun _ i v w w' _ _ => hFR i v w w') hC ?_ (fun u w' hc hf => by rw [hF u]; exact hQ u w' hc (fun i hi => hf i hi rfl))
  have conv : ∀ (l : List Oper) (k : Nat) (p q : Nat → Oper → Prop), allOps p k l → (∀ i o, p i o → q i o) → allOps q k l := by
    intro l
    induction l with
    | nil => intros; trivial
    | cons o l ih => intro k p q hp hpq; exact ⟨hpq _ _ hp.1, ih _ _ _ hp.2 hpq⟩
  refine conv _ 0 _ _ hops (fun i o hp u w hc hd K hK => ?_)
  rw [hF u] at hK ⊢
  exact hp u w hc (fun j hj => hd j hj rfl) K hK
/-- The operations write the slots from s on, one after the other. -/
def dstB : Nat → List Oper → Bool
  | _, [] => true
  | s, o :: l => (o.dst == some s) && dstB (s + 1) l
theorem putAll_mid (u : Nat → Value) : ∀ (l : List Oper) (a : Act) (k s : Nat), dstB s l = true → s + l.length ≤ a.tmps.size → putAll a l u k = { a with tmps := (a.tmps.toList.take s ++ ((List.range' k l.length).map u ++ a.tmps.toList.drop (s + l.length))).toArray }
  | [], a, k, s, _, _ => by
    obtain ⟨⟨xs⟩, d⟩ := a
    simp [putAll]
  | o :: l, ⟨⟨xs⟩, d⟩, k, s, h, hs => by
    simp only [dstB, Bool.and_eq_true, beq_iff_eq] at h
    obtain ⟨h1, h2⟩ := h
    rw [List.length_cons] at hs
    have hs' : s + (l.length + 1) ≤ xs.length := hs
    have e : (Act.mk ⟨xs⟩ d).put o.dst (u k) = Act.mk ⟨xs.set s (u k)⟩ d := by rw [h1]; simp [Act.put]
    show putAll ((Act.mk ⟨xs⟩ d).put o.dst (u k)) l u (k + 1) = _
    rw [e, putAll_mid u l _ (k + 1) (s + 1) h2 (by simp; omega)]
    have h3 : (xs.set s (u k)).take (s + 1) = xs.take s ++ [u k] := by
      rw [List.take_add_one, List.take_set_of_le (Nat.le_refl _)]
      simp
      rw [List.getElem?_set_self (by omega)]
    have h4 : (xs.set s (u k)).drop (s + 1 + l.length) = xs.drop (s + (l.length + 1)) := by
      rw [List.drop_set_of_lt (by omega), show s + 1 + l.length = s + (l.length + 1) from by omega]
    simp only [List.length_cons, List.range'_succ, List.map_cons]
    rw [h3, h4]
    simp
end Go.Proofs.YtojbddcbnnbklaaGreatDoor
namespace Go.Proofs.YtojbddcbnnbklaaGreatDoor
open Go.RowKit P43
attribute [local go_sem] ByteArray.mk_append_mk ByteArray.extract_mk mk_index

theorem sameLocksN (A1 A2 : Option Addr) (c1 c2 n : Nat) (xs : List (Nm × Bool)) (w : World) (h1 : NlsAt w A1 n xs) (h2 : NlsAt w A2 n xs) (hn63 : n ≤ 9223372036854775807) :
    Calls Tryz.prog 16 #[.slice A1 n c1, .slice A2 n c2] w fun e w' => e = .returned (.bool true) ∧ Below w.heap.size w w' := by
  have H1 := Lib.hid h1
  have H2 := Lib.hid h2
  have hlen : (Tryz.prog.info? tNL).map (·.size) = some 2 := by kernel_rfl
  clear h1 h2
  go_enter Tryz.func16, Tryz.ntmps16
  go_wp2
  go_loopw [5] (fun i wr => ∃ k : Nat, k ≤ n ∧ i = .int .i64 k ∧ Below w.heap.size w wr) (fun i _ => n - (intOf i).toNat)
  case atStart => exact ⟨0, Nat.zero_le _, rfl, Below.refl _ _⟩
  case round =>
    obtain ⟨k, hk, rfl, hbw⟩ := hrel
    by_cases hlt : k < n
    · obtain ⟨b1, o1, x, rfl, hx, x0, x1⟩ := (H1.out.below hbw).at_ hlt
      obtain ⟨b2, o2, y, rfl, hy, y0, y1⟩ := (H2.out.below hbw).at_ hlt
      obtain rfl : x = y := by rw [hx] at hy; exact Option.some.inj hy
      have i0 : (0 : Int) ≤ (k : Int) := by omega
      have i1 : (k : Int) < (n : Int) := by omega
      have heq := fun w => run_neq_nl w x x
      have hgd := fun w op a b => run_eqGuard_nl w op a b x x
      simp only [decide_true, Bool.not_true] at heq
      unfold nv at heq hgd
      clear hx hy
      go_upto_region 6 with (fail)
      go_quiet (fail)
      have HB := Lib.hid (hbw.trans ((below_drewN (Below.refl wr.heap.size wr) nq).mono hbw.size))
      generalize wr.drewN nq = w6 at HB ⊢
      clear x0 y0 i0 i1 x1 y1 heq hgd
      go_wp2
      go_roundw
      case rel => exact ⟨k + 1, by omega, by go_num, HB.out⟩
      case measure => simp [intOf]; omega
    · have hkn : k = n := by omega
      subst hkn
      go_wp2
      go_ret
      exact ⟨rfl, hbw⟩
/-- What a call on the program's table keeps: every block of cells that is neither the table's nor a row of claims. -/
structure KpF (w w' : World) : Prop where
  size : w.heap.size ≤ w'.heap.size
  blk : ∀ k ty cs, Blk w k ty cs → ty ≠ tT → ty ≠ tC → Blk w' k ty cs
theorem OwnK.blkC {w : World} {B : Nat} {v : Value} {ls : List Cm} (h : OwnK w B tC v ls) : ∀ k, v.ownBlock = some k → ∃ cs, Blk w k tC cs := by
  intro k hk
  rcases h.2 with ⟨rfl, _⟩ | ⟨g, cap, cur, rfl, _, hb, _⟩
  · cases hk
  · injection hk with hk
    subst hk
    exact ⟨cur, hb⟩
theorem Blk.type {w : World} {k : Nat} {t t' : TypeId} {cs cs' : Array Value} (h : Blk w k t cs) (h' : Blk w k t' cs') : t = t' := by
  by_cases e : t = t'
  · exact e
  · exact absurd rfl (Blk.ne h h' e)
theorem TT.blkT {w : World} {B p : Nat} {t : T} {F : Nat → Prop} (m : TT w B p t F) {k : Nat} (hk : F k) {ty : TypeId} {cs : Array Value} (hb : Blk w k ty cs) : ty = tT ∨ ty = tC := by
  obtain ⟨hs, ws, vh, vw, mt, e, hF⟩ := m
  rcases (hF k).1 hk with h | ⟨x, hx, rfl⟩
  · rcases mt.foot.1 h with rfl | h | h
    · exact .inl (Blk.type hb mt.box)
    · obtain ⟨cs', hb'⟩ := mt.held.blkC k h
      exact .inr (Blk.type hb hb')
    · obtain ⟨cs', hb'⟩ := mt.wait.blkC k h
      exact .inr (Blk.type hb hb')
  · exact ((mt.maps.ns x hx).noBlk hb).elim
theorem KpF.of_chg {w w' : World} {B p : Nat} {t : T} {F F' : Nat → Prop} (m : TT w B p t F) (c : Chg F F' w w') : KpF w w' :=
  ⟨c.size, fun k _ _ hb h1 h2 => (c.block k hb.lt (fun hk => (m.blkT hk hb).elim h1 h2)).trans hb⟩
section
variable {w w' W wr : World} {v a b va vb : Value} {ls : List Om} {t tm tr t' tm' : T} {B p px : Nat} {F F' : Nat → Prop}
theorem CellsAt.kpf {A : Option Addr} {n s : Nat} {us : List Value} {ty : TypeId} (h : CellsAt w A n s us) (hb : ∀ b off, A = some ⟨b, off, none⟩ → ∃ cs, Blk w b ty cs) (k : KpF w w') (h1 : ty ≠ tT) (h2 : ty ≠ tC) :
    CellsAt w' A n s us ∧ ∀ b off, A = some ⟨b, off, none⟩ → ∃ cs, Blk w' b ty cs := by
  refine ⟨⟨h.1, fun j u hj => ?_⟩, fun b off e => ?_⟩
  · obtain ⟨b, off, e, h4⟩ := h.2 j u hj
    refine ⟨b, off, e, ?_⟩
    obtain ⟨cs, h5⟩ := hb b off e
    have h6 := k.blk b ty cs h5 h1 h2
    unfold Blk at h5 h6
    unfold World.cell? at h4 ⊢
    simp only at h4 ⊢
    rw [h6]
    rw [h5] at h4
    exact h4
  · obtain ⟨cs, h5⟩ := hb b off e
    exact ⟨cs, k.blk b ty cs h5 h1 h2⟩
theorem RsO.kpf (h : RsO w v ls) (k : KpF w w') : RsO w' v ls := by
  obtain ⟨A, n, c, rfl, h1, h2, h3⟩ := h
  have h4 := CellsAt.kpf h1 h3 k (by decide) (by decide)
  exact ⟨A, n, c, rfl, h4.1, h2, h4.2⟩
theorem RTT.kpf (h : RTT w a b t) (k : KpF w w') : RTT w' a b t := by
  obtain ⟨hs, ws, h1, h2, h3, h4⟩ := h
  refine ⟨hs, ws, h1.kpf k, h2.kpf k, fun x hx => ?_, h4⟩
  have h5 := h3 x hx
  have h6 := CellsAt.kpf h5.1.1 h5.2 k (by decide) (by decide)
  exact ⟨⟨h6.1, h5.1.2⟩, h6.2⟩
theorem OwnI.kpf {xs : List Int} (h : OwnI w B v xs) (k : KpF w w') : OwnI w' B v xs := by
  refine ⟨h.1, ?_⟩
  rcases h.2 with h1 | ⟨g, cap, cur, rfl, a2, a3, a4⟩
  · exact .inl h1
  · exact .inr ⟨g, cap, cur, rfl, a2, k.blk g 3 cur a3 (by decide) (by decide), a4⟩
/-- The program's table at tm, the reference's at tr. -/
structure KR (W wr : World) (B p px : Nat) (tm tr : T) (F : Nat → Prop) (va vb : Value) : Prop where
  mgr : TT wr B p tm F
  box : Blk wr px tTb #[va, vb]
  ref : RTT wr va vb tr
  low : Below B W wr
  base : B ≤ wr.heap.size ∧ B ≤ px
theorem KR.below (k : KR W wr B p px tm tr F va vb) (hb : Below wr.heap.size wr w') : KR W w' B p px tm tr F va vb :=
  ⟨k.mgr.below hb, k.box.below hb, k.ref.below hb, k.low.trans (hb.mono k.base.1), Nat.le_trans k.base.1 hb.size, k.base.2⟩
theorem KR.call (k : KR W wr B p px tm tr F va vb) (hm : TT w' B p tm' F') (c : Chg F F' wr w') : KR W w' B p px tm' tr F' va vb := by
  have h := KpF.of_chg k.mgr c
  exact ⟨hm, h.blk px tTb _ k.box (by decide) (by decide), k.ref.kpf h, k.low.trans (c.below (fun j hj => (k.mgr.ge hj).1) k.base.1), Nat.le_trans k.base.1 c.size, k.base.2⟩
/-- The reference's answer is written into its box. -/
theorem KR.put (k : KR W wr B p px tm tr F va vb) (hb : Below wr.heap.size wr w') (ha : RTT w' a b t') : KR W ((w'.setCell ⟨px, 0, none⟩ a).setCell ⟨px, 1, none⟩ b) B p px tm t' F a b := by
  have k1 := k.below hb
  have hne : ∀ j, F j → j ≠ px := fun j hj e => by
    subst e
    rcases k1.mgr.blkT hj k1.box with h | h
    · exact absurd h (by decide)
    · exact absurd h (by decide)
  have b1 := k1.box.put 0 a
  refine ⟨k1.mgr.same (fun j hj => ?_), by simpa using b1.put 1 b, (ha.setCell (q := ⟨px, 0, none⟩) k1.box (by decide) (by decide) a).setCell (q := ⟨px, 1, none⟩) b1 (by decide) (by decide) b, (k1.low.setCell (p := ⟨px, 0, none⟩) k.base.2 a).setCell (p := ⟨px, 1, none⟩) k.base.2 b, by simpa using k1.base⟩
  rw [Below.heap_setCell _ _ _ _ (by exact hne j hj), Below.heap_setCell _ _ _ _ (by exact hne j hj)]
theorem KR.slices (k : KR W wr B p px tm tr F va vb) : ∃ A n c A' n' c', va = .slice A n c ∧ vb = .slice A' n' c' := k.ref.slices
end
theorem rtt_nil (w : World) : RTT w (.slice none 0 0) (.slice none 0 0) ⟨[], []⟩ := ⟨[], [], .nil w, .nil w, by simp, ⟨by simp [ByNo], List.Perm.refl _, rfl⟩⟩
/-- What the reference's Held answers. -/
def HeldV (w : World) (xs : List (Nm × Bool)) (v : Value) : Prop := ∃ A n c, v = .slice A n c ∧ NlsAt w A n xs ∧ n ≤ 1000
theorem HeldV.below {w w' : World} {xs : List (Nm × Bool)} {v : Value} (h : HeldV w xs v) (hb : Below w.heap.size w w') : HeldV w' xs v := by
  obtain ⟨A, n, c, e, h1, h2⟩ := h
  exact ⟨A, n, c, e, h1.below hb, h2⟩
theorem heldR_eq {hs ws : List Om} {t : T} (hR : RT ⟨hs.map (·.1), ws.map (·.1)⟩ t) (hn : (ids t.hs).Nodup) (o : Int) : heldR o hs = heldP t o := by
  rw [← hR.held hn]
  unfold heldR heldP
  have e : ((hs.map (·.1)).find? fun c => decide (c.id = o)) = (hs.find? fun x => decide (x.1.id = o)).map (·.1) := by
    rw [List.find?_map]
    rfl
  simp only
  rw [e, Option.map_map]
  rfl
end Go.Proofs.YtojbddcbnnbklaaGreatDoor
