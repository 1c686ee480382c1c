/- slices.Delete at locks: one element is left out of a row of the caller's own. -/
import Derived.Test.YtjklhiifjnmedaaGreatDoorLkVisit
import Derived.Test.YtjklhiifjnmedaaGreatDoorRows2
namespace Go.Proofs.YtjklhiifjnmedaaGreatDoor
open Go.RowKit P16 P46
attribute [local go_sem] ByteArray.mk_append_mk ByteArray.extract_mk mk_index

/-- 'append' where there is room. -/
theorem wpList_append_room {P : Program} {ops : Array Oper} {rest : List Oper} {o : Oper} {a : Act} {w : World} {Q : Exit → Act → World → Prop} (hgd : o.guard = none) (s x : Operand) (t : TypeId)
    (ho : o.op = .call { callee := .builtin .append, args := #[s, x], argTypes := #[t, t] }) (e : TypeId) (i : TypeInfo) (size : Nat) (ht : P.underlying t = some (.slice e)) (hi : P.info? e = some i) (hsize : i.size = size)
    (b off n cap : Nat) (hs : a.eval s = .slice (some ⟨b, off, none⟩) n cap) (ad : Addr) (m c : Nat) (news : List Value) (hx : a.eval x = .slice (some ad) m c)
    (hl : news.length = m * size) (hnews : ∀ j u, news[j]? = some u → w.cell? (ad.add j) = some u) (h1 : ∀ u ∈ news, u.oneCell' = true)
    (hroom : n + m ≤ cap) (t' : TypeId) (cs : Array Value) (hb : Blk w b t' cs) (hle : off + n * size + m * size ≤ cs.size)
    (h : wpList P ops Q rest (a.put o.dst (.slice (some ⟨b, off, none⟩) (n + m) cap)) (w.setCells b (off + n * size) news)) : wpList P ops Q (o :: rest) a w := by
  subst hsize
  refine wpList_plain hgd fun K hK => ?_
  have hth := hb.there (o := off + n * i.size) (n := m * i.size) hle
  have hr := run_append_room_cells (P := P) w t o.type e i ht hi b off n cap ad m c news hl hnews h1 hroom (fun j hj => (hth j (by omega)).1) (fun j hj => (hth j (by omega)).2)
  unfold Oper.wp execOp
  simp only [ho, resolve, invoke, builtin, Sem.run_bind, Sem.run_pure, Result.andThen_ok, List.map_toArray, List.map_cons, List.map_nil, hs, hx, hr]
  exact hK _ _ h
/-- 'clear' of part of a row. -/
theorem wpList_clear_row {P : Program} {ops : Array Oper} {rest : List Oper} {o : Oper} {a : Act} {w : World} {Q : Exit → Act → World → Prop} (hgd : o.guard = none) (s : Operand) (t : TypeId)
    (ho : o.op = .call { callee := .builtin .clear, args := #[s], argTypes := #[t] }) (e : TypeId) (z : Value) (size : Nat) (ht : P.underlying t = some (.slice e)) (hv : ∀ w, (zeroValue e).run P w = .ok z w) (hz : z.cells.size = size) (h1 : ∀ v ∈ z.cells, v.oneCell' = true)
    (g off n c : Nat) (cs : Array Value) (te : TypeId) (hs : a.eval s = .slice (some ⟨g, off, none⟩) n c) (hb : Blk w g te cs) (hle : off + n * size ≤ cs.size)
    (h : ∀ zs : List Value, zs.length = n * size → wpList P ops Q rest (a.put o.dst (.tuple #[])) (w.setCells g off zs)) : wpList P ops Q (o :: rest) a w := by
  refine wpList_plain hgd fun K hK => ?_
  obtain ⟨zs, hl, hr⟩ := run_clear_row (P := P) w t e o.type z size ht hv hz h1 g off n c cs te hb hle
  unfold Oper.wp execOp
  simp only [ho, resolve, invoke, builtin, Sem.run_bind, Sem.run_pure, Result.andThen_ok, List.map_toArray, List.map_cons, List.map_nil, hs, hr]
  exact hK _ _ (h zs hl)
theorem z_one : ∀ v ∈ (Value.agg #[.int .i64 0, .int .i64 0, .string ⟨#[]⟩, .string ⟨#[]⟩, .bool false, .bool false]).cells, v.oneCell' = true := by
  intro v hv
  refine lc_one zeroL v ?_
  simp [Value.cells] at hv
  simp [lc]
  exact hv
set_option maxRecDepth 100000 in
set_option maxHeartbeats 1000000 in
theorem lkDelete (B g cap : Nat) (a b : List Lock) (x : Lock) (w : World) (hown : OwnL w B 46 (.slice (some ⟨g, 0, none⟩) (a.length + 1 + b.length) cap) (a ++ x :: b)) (hn : cap ≤ maxLen) :
    Calls Tryz.prog 88 #[.slice (some ⟨g, 0, none⟩) (a.length + 1 + b.length) cap, .int .i64 a.length, .int .i64 (a.length + 1)] w fun e w' => e = .returned (.slice (some ⟨g, 0, none⟩) (a.length + b.length) cap) ∧ OwnL w' B 46 (.slice (some ⟨g, 0, none⟩) (a.length + b.length) cap) (a ++ b) ∧ w.grownBy w' (some g) := by
  obtain ⟨i0, hi0, hz0, hz1, hz2⟩ := info_parts infoL
  have HI := Lib.hid hi0
  have HZ0 := Lib.hid hz0
  have HZ1 := Lib.hid hz1
  have HZ2 := Lib.hid hz2
  clear hi0 hz0 hz1 hz2
  have hcap := hown.cap
  have HOWN := Lib.hid hown
  clear hown
  obtain ⟨k, hk⟩ : ∃ k, a.length = k := ⟨_, rfl⟩
  obtain ⟨m, hm⟩ : ∃ m, b.length = m := ⟨_, rfl⟩
  rw [hk, hm] at hcap ⊢
  unfold maxLen at hn
  have HK := Lib.hid hk
  have HMM := Lib.hid hm
  clear hk hm
  go_enter Tryz.func88, Tryz.ntmps88
  go_wp2
  have b0 : (0 : Int) ≤ (k : Int) := by omega
  have b1 : (0 : Int) ≤ (k : Int) + 1 := by omega
  have b2 : (k : Int) ≤ (cap : Int) := by omega
  have b3 : (k : Int) + 1 ≤ (k : Int) + 1 + (m : Int) := by omega
  have b4 : (k : Int) + 1 + (m : Int) ≤ (cap : Int) := by omega
  have b5 : ((k : Int) + 1).toNat = k + 1 := by omega
  have hcl : (Tryz.prog.info? 46).map (·.size) = some 6 := by kernel_rfl
  have hzv : ∀ w, (zeroValue 46).run Tryz.prog w = .ok (.agg #[.int .i64 0, .int .i64 0, .string ⟨#[]⟩, .string ⟨#[]⟩, .bool false, .bool false]) w := fun _ => by kernel_rfl
  have HZV := Lib.hid hzv
  clear hzv hcl
  go_still_tail 6, (by kernel_rfl)
  have HO2 := Lib.hid (show OwnL (w.drewN 1) B 46 (.slice (some ⟨g, 0, none⟩) (a.length + 1 + b.length) cap) (a ++ x :: b) from HOWN.out)
  have HG2 := Lib.hid (show w.grownBy (w.drewN 1) (some g) from ⟨rfl, rfl, rfl, Nat.le_refl _, fun _ _ _ => rfl⟩)
  change wpList _ _ _ _ _ (w.drewN 1)
  generalize w.drewN 1 = W at HO2 HG2 ⊢
  obtain ⟨ad, had, hcells⟩ : ∃ ad : Addr, (if cap = k + 1 then (some ⟨g, 0, none⟩ : Option Addr) else some ⟨g, (k + 1) * 6, none⟩) = some ad ∧ ∀ (j : Nat) (u : Value), (lcs b)[j]? = some u → W.cell? (ad.add j) = some u := by
    by_cases he : cap = k + 1
    · rw [if_pos he]
      refine ⟨_, rfl, fun j u hj => ?_⟩
      have : b = [] := List.eq_nil_of_length_eq_zero (by rw [HMM.out]; omega)
      rw [this] at hj
      simp [lcs_nil] at hj
    · rw [if_neg he]
      refine ⟨_, rfl, fun j u hj => ?_⟩
      obtain ⟨A9, c9, h9, hq9, -⟩ := HO2.out.cells
      injection h9 with h91 h92 h93
      subst h91
      have hj2 : (lcs (a ++ x :: b))[(k + 1) * 6 + j]? = some u := by
        rw [lcs_append, lcs_cons, ← List.append_assoc, List.getElem?_append_right (by simp [lcs_length, lc]; have := HK.out; omega)]
        rw [← hj]
        congr 1
        simp [lcs_length, lc]
        have := HK.out
        omega
      obtain ⟨b', off', h5, h6⟩ := hq9.2 _ u hj2
      injection h5 with h5
      injection h5 with h51 h52
      subst h51 h52
      rw [Addr.add_lit]
      simpa using h6
  rw [had]
  obtain ⟨cur, hblk, hsz, -⟩ := HO2.out.blk
  have HCE := Lib.hid hcells
  have HBL := Lib.hid hblk
  have HSZ := Lib.hid hsz
  clear hcells hblk hsz had
  have b7 : (k : Int) + (m : Int) ≤ (k : Int) + 1 + (m : Int) := by omega
  have b8 : (0 : Int) ≤ (k : Int) + (m : Int) := by omega
  have HO3 := Lib.hid (show OwnL (W.setCells g (k * 6) (lcs b)) B 46 (.slice (some ⟨g, 0, none⟩) (k + m) cap) (a ++ b) from by
    have := HO2.out.cut
    rw [HK.out, HMM.out] at this
    exact this)
  have HG3 := Lib.hid (grown_trans HG2.out (grownBy_setCells (g := g) W (k * 6) (lcs b)))
  have HB3 := Lib.hid (HBL.out.setCells (o := k * 6) (vs := lcs b) (by rw [lcs_length, HMM.out, HSZ.out]; omega))
  have HS3 := Lib.hid (show (over cur (k * 6) (lcs b)).size = cap * 6 from by rw [over_size (by rw [lcs_length, HMM.out, HSZ.out]; omega), HSZ.out])
  go_wp2_with (first | (at_builtin; refine wpList_append_room rfl (.tmp 22) (.tmp 25) _ rfl 46 i0 6 Tryz.underlying50 HI.out HZ1.out g 0 k cap rfl ad m _ (lcs b) rfl (by rw [lcs_length, HMM.out]) HCE.out (lcs_one _) (by omega) _ _ HBL.out (by rw [HSZ.out]; omega) ?_; rw [Nat.zero_add]; generalize W.setCells g (k * 6) (lcs b) = W2 at HO3 HG3 HB3 ⊢) | (refine wpList_clear_row rfl (.tmp 31) _ rfl 46 _ 6 Tryz.underlying50 HZV.out rfl z_one g ((k + m) * 6) (k + 1 + m - (k + m)) (cap - (k + m)) _ _ rfl HB3.out (by rw [HS3.out]; omega) ?_; intro zs hzs))
  go_ret
  exact ⟨rfl, HO3.out.tail (Nat.le_refl _) (by omega), grown_trans HG3.out (grownBy_setCells (g := g) W2 ((k + m) * 6) zs)⟩
end Go.Proofs.YtjklhiifjnmedaaGreatDoor
