/- The walks of slices.Equal at strings and of Unpack: the records of blocks, or an error. -/
import Derived.Test.YtabpgfcmfflceaaDoorJoin
namespace P12
/-- The segments of all blocks, the numbers any. -/
def allI (L K : Nat) (bs : List Bs) : Option (List Seg) := allSegs L K bs
theorem allSegs_snoc (L K : Nat) : ∀ (bs : List Bs) (b : Bs), allSegs L K (bs ++ [b]) = (allSegs L K bs).bind fun l => (segs L K b).map (l ++ ·) := by
  intro bs b
  induction bs with
  | nil =>
    simp only [List.nil_append, allSegs]
    cases segs L K b <;> simp
  | cons x bs ih =>
    simp only [List.cons_append, allSegs, ih]
    cases segs L K x with
    | none => rfl
    | some l =>
      cases allSegs L K bs with
      | none => rfl
      | some m => cases segs L K b <;> simp
theorem allSegs_none {L K : Nat} {bs : List Bs} {k : Nat} {b : Bs} (h : bs[k]? = some b) (hs : segs L K b = none) : allSegs L K bs = none := by
  induction bs generalizing k with
  | nil => simp at h
  | cons x bs ih =>
    cases k with
    | zero =>
      simp only [List.getElem?_cons_zero, Option.some.injEq] at h
      subst h
      simp [allSegs, hs]
    | succ k =>
      have := ih (k := k) (by simpa using h)
      simp only [allSegs, this]
      cases segs L K x <;> rfl
end P12
namespace Go.Proofs.YtabpgfcmfflceaaDoor
open Go.RowKit P12 Go.Sort
attribute [local go_sem] ByteArray.mk_append_mk ByteArray.extract_mk mk_index

set_option maxHeartbeats 400000 in
theorem equal35 (A A' : Option Addr) (n c n' c' : Nat) (ss tt : List Bs) (w : World) (h : StrsAt w A n ss) (h' : StrsAt w A' n' tt) (hn : n ≤ maxLen) (hn' : n' ≤ maxLen) :
    Calls Tryd.prog 35 #[.slice A n c, .slice A' n' c'] w fun e w' => e = .returned (.bool (sameB ss tt)) ∧ Below w.heap.size w w' := by
  unfold maxLen at hn hn'
  by_cases hne : n = n'
  · subst hne
    have H := Lib.hid h
    have H' := Lib.hid h'
    clear h h'
    have hnn : ((n : Int) != (n : Int)) = false := by simp
    go_enter Tryd.func35, Tryd.ntmps35
    go_wp2
    go_loopw [13] (fun i wr => ∃ k : Nat, k ≤ n ∧ i = .int .i64 k ∧ Hid (∀ j, j < k → ss[j]? = tt[j]?) ∧ Below w.heap.size w wr) (fun i _ => n - (intOf i).toNat)
    case atStart => exact ⟨0, Nat.zero_le _, rfl, fun j hj => absurd hj (by omega), Below.refl _ _⟩
    case round =>
      obtain ⟨k, hk, rfl, hall, hbw⟩ := hrel
      by_cases hlt : k < n
      · obtain ⟨b, off, s, rfl, hs, hc⟩ := (H.out.below hbw).at_ hlt
        obtain ⟨b', off', s', rfl, hs', hc'⟩ := (H'.out.below hbw).at_ hlt
        have HS := Lib.hid hs
        have HS' := Lib.hid hs'
        clear hs hs'
        by_cases he : s = s'
        · subst he
          go_wp2
          go_quiet (fail)
          go_wp2
          go_roundw
          case rel =>
            refine ⟨k + 1, by omega, by go_num, ?_, below_drewN hbw _⟩
            intro j hj
            by_cases hjk : j = k
            · subst hjk
              exact HS.out.trans HS'.out.symm
            · exact hall.out j (by omega)
          case measure => simp [intOf]; omega
        · have hbe : (s == s') = false := by simpa using he
          have hout : sameB ss tt = false := by
            apply decide_eq_false
            intro e
            subst e
            have := HS.out.symm.trans HS'.out
            simp only [Option.some.injEq] at this
            exact he this
          have HO := Lib.hid hout
          clear hout he
          go_wp2
          go_quiet (fail)
          go_wp2
          go_ret
          exact ⟨retBool HO.out.symm, below_drewN hbw _⟩
      · have hkn : k = n := by omega
        subst hkn
        have HO := Lib.hid (sameB_iff.2 (list_eq_of H.out.len H'.out.len hall.out))
        go_wp2
        go_ret
        exact ⟨retBool HO.out.symm, hbw⟩
  · have hout : sameB ss tt = false := by
      apply decide_eq_false
      intro e
      subst e
      exact hne (h.len.symm.trans h'.len)
    have HO := Lib.hid hout
    clear hout h h'
    have hnn : ((n : Int) != (n' : Int)) = true := bne_of (by omega)
    go_enter Tryd.func35, Tryd.ntmps35
    go_wp2
    go_ret
    exact ⟨retBool HO.out.symm, Below.refl _ _⟩

/-- The error of an unpacking, and the records. -/
def unErr (L K : Int) (bs : List Bs) : Int := if vok L K then (if (unpack L.toNat K.toNat bs).isSome then 0 else 11) else 1
def unOut (L K : Int) (bs : List Bs) : List Bs := if vok L K then (unpack L.toNat K.toNat bs).getD [] else []
theorem un_bad {L K : Int} {d : List Bs} (hv : vok L K = false) : unErr L K d = 1 ∧ unOut L K d = [] := by
  unfold unErr unOut
  rw [hv]
  exact ⟨rfl, rfl⟩
theorem un_none {L K : Nat} {d : List Bs} (hv : vok (L : Int) (K : Int) = true) (h : unpack L K d = none) : unErr L K d = 11 ∧ unOut L K d = [] := by
  unfold unErr unOut
  rw [hv, show (L : Int).toNat = L from rfl, show (K : Int).toNat = K from rfl, h]
  exact ⟨rfl, rfl⟩
theorem un_some {L K : Nat} {d : List Bs} {ls : List Bs} (hv : vok (L : Int) (K : Int) = true) (h : unpack L K d = some ls) : unErr L K d = 0 ∧ unOut L K d = ls := by
  unfold unErr unOut
  rw [hv, show (L : Int).toNat = L from rfl, show (K : Int).toNat = K from rfl, h]
  exact ⟨rfl, rfl⟩
def Unpacked (L K : Int) (d : List Bs) (w : World) (en : Ending) (w' : World) : Prop :=
  ∃ v, en = .returned (.tuple #[v, .int .i64 (unErr L K d)]) ∧ OwnS w' w.heap.size 9 v (unOut L K d) ∧ Below w.heap.size w w'
theorem Unpacked.fail {L K : Int} {d : List Bs} {w w' : World} {x : Int} (h : unErr L K d = x ∧ unOut L K d = []) (hb : Below w.heap.size w w') : Unpacked L K d w (.returned (.tuple #[.slice none 0 0, .int .i64 x])) w' :=
  ⟨_, by rw [h.1], by rw [h.2]; exact OwnS.nil _ _ _, hb⟩

/-- What the parts of an unpacking come to. -/
theorem unpack_join_none {L K : Nat} {bs : List Bs} {l : List Seg} (h : allSegs L K bs = some l) (hj : join L l = none) : unpack L K bs = none := by
  unfold unpack
  rw [h]
  dsimp only
  rw [hj]
theorem unpack_join_some {L K : Nat} {bs : List Bs} {l : List Seg} {rs : List Bs} (h : allSegs L K bs = some l) (hj : join L l = some rs) : unpack L K bs = if packP K rs = bs then some rs else none := by
  unfold unpack
  rw [h]
  dsimp only
  rw [hj]
theorem unpack_segs_none {L K : Nat} {bs : List Bs} (h : allSegs L K bs = none) : unpack L K bs = none := by
  unfold unpack
  rw [h]

/-- Segments put behind segments of the call's own. -/
theorem wpList_append_segs {P : Program} {w : World} {ops : Array Oper} {rest : List Oper} {o : Oper} {a : Act} {Q : Exit → Act → World → Prop} (hgd : o.guard = none) (s x : Operand) (t : TypeId)
    (ho : o.op = .call { callee := .builtin .append, args := #[s, x], argTypes := #[t, t] })
    (base : Nat) (e : TypeId) (i : TypeInfo) (z : Value) (bytes : Nat) (ht : P.underlying t = some (.slice e)) (hi : P.info? e = some i) (hz : i.zero = some z)
    (hsize : i.size = 3) (hby : i.bytes = bytes) (hzs : z.cells.size = 3) (hb6 : bytes ≤ 1000)
    (v : Value) (ls : List Seg) (hs : a.eval s = v) (hown : OwnG w base e v ls) (v2 : Value) (B2 : Nat) (ms : List Seg) (hx : a.eval x = v2) (hown2 : OwnG w B2 e v2 ms)
    (hlen : ls.length + ms.length ≤ 1000000) (hbase : base ≤ w.heap.size)
    (h : ∀ v' w', OwnG w' base e v' (ls ++ ms) → Below base w w' → wpList P ops Q rest (a.put o.dst v') w') :
    wpList P ops Q (o :: rest) a w := by
  rcases hown2.2 with ⟨rfl, h0⟩ | ⟨g, cap, cur, rfl, _, hg, h1, h2, _⟩
  · have : ms = [] := List.eq_nil_of_length_eq_zero h0
    subst this
    refine wpList_append_own_none hgd s x t ho base e i 3 ht hi v ls.length _ hs hown hx ?_
    exact h v w (by simpa using hown) (Below.refl _ _)
  · refine wpList_append_own_at (P := P) w hgd s x t ho base e i z 3 bytes ht hi hz hsize hby hzs (by omega) v ls.length _ hs hown ⟨g, 0, none⟩ ms.length cap (scs ms) hx (scs_length ms) ?_ (scs_one _) (by unfold maxLen; omega) (Nat.le_trans (Nat.mul_le_mul hlen hb6) (by decide)) hbase ?_
    · intro j u hj
      exact World.ownsRow.cells hown2 (g := g) rfl j u hj
    · intro v' w' h3 h4 _ _
      refine h v' w' ?_ ((Below.refl _ _).grown h4 hbase (fun k hk => (hown.lt k hk).1))
      unfold OwnG
      rw [List.length_append, scs_append]
      exact h3

theorem join_total {L : Nat} : ∀ (l : List Seg) (out : List Bs) (op : Bool) (rs : List Bs), joinGo L out op l = some rs → total rs ≤ total out + (l.map fun x => x.d.length + 1).sum := by
  intro l
  induction l with
  | nil =>
    intro out op rs h
    rw [joinGo] at h
    split at h
    · cases h
    · simp only [Option.some.injEq] at h
      subst h
      simp
  | cons x xs ih =>
    intro out op rs h
    rw [joinGo] at h
    split at h
    · cases h
    · split at h
      · split at h
        · cases h
        · have := ih _ _ _ h
          rw [total_snoc] at this
          simp only [List.map_cons, List.sum_cons]
          rcases List.eq_nil_or_concat out with rfl | ⟨l, y, rfl⟩
          · simp [total] at this ⊢
            omega
          · rw [List.concat_eq_append] at this ⊢
            rw [List.dropLast_concat, List.getLast?_concat, Option.getD_some, List.length_append] at this
            rw [total_snoc]
            omega
      · split at h
        · cases h
        · have := ih _ _ _ h
          rw [total_snoc] at this
          simp only [List.map_cons, List.sum_cons]
          omega
/-- The bytes of segments are fewer than those of their block. -/
def weight (l : List Seg) : Nat := (l.map fun x => x.d.length + 1).sum
theorem weight_append (a b : List Seg) : weight (a ++ b) = weight a + weight b := by simp [weight]
theorem recs_weight {L : Nat} : ∀ (n : Nat) (f : Bs) (full fst : Bool) (ls : List Seg), f.length ≤ n → recs L full fst f = some ls → weight ls ≤ f.length := by
  intro n
  induction n with
  | zero =>
    intro f full fst ls hf h
    rw [List.eq_nil_of_length_eq_zero (l := f) (by omega), recs_nil] at h
    simp only [Option.some.injEq] at h
    subst h
    simp [weight]
  | succ n ih =>
    intro f full fst ls hf h
    by_cases hf0 : f = []
    · rw [hf0, recs_nil] at h
      simp only [Option.some.injEq] at h
      subst h
      simp [weight]
    · cases hh : head L f with
      | none => rw [recs_stop hf0 hh] at h; cases h
      | some x =>
        obtain ⟨x, rest⟩ := x
        rw [recs_step hf0 hh] at h
        split at h
        · cases h
        · obtain ⟨ms, hm, rfl⟩ := Option.map_eq_some_iff.1 h
          have h1 := head_lt hh
          have := ih rest _ _ ms (by omega) hm
          simp only [weight, List.map_cons, List.sum_cons] at this ⊢
          omega
theorem segs_weight {L K : Nat} {d : Bs} {ls : List Seg} (h : segs L K d = some ls) : weight ls ≤ d.length := by
  rw [segs_eq] at h
  split at h
  · cases h
  · have := recs_weight _ _ _ _ _ (Nat.le_refl _) h
    simp at this
    omega
theorem weight_len (l : List Seg) : l.length ≤ weight l := by
  induction l with
  | nil => simp
  | cons x l ih => simp [weight] at ih ⊢; omega
theorem weight_mem {l : List Seg} {x : Seg} (h : x ∈ l) : x.d.length ≤ weight l := by
  induction l with
  | nil => cases h
  | cons y l ih =>
    simp only [weight, List.map_cons, List.sum_cons] at ih ⊢
    rcases List.mem_cons.1 h with rfl | h
    · omega
    · have := ih h
      omega

theorem unpack_full {L K : Nat} {bs : List Bs} {xs : List Seg} {rs : List Bs} (hv : vok (L : Int) (K : Int) = true) (h : allSegs L K bs = some xs) (hj : join L xs = some rs) :
    (sameB (packP K rs) bs = true → unErr L K bs = 0 ∧ unOut L K bs = rs) ∧ (sameB (packP K rs) bs = false → unErr L K bs = 11 ∧ unOut L K bs = []) := by
  have hu := unpack_join_some h hj
  refine ⟨fun hs => ?_, fun hs => ?_⟩
  · exact un_some hv (by rw [hu, if_pos (sameB_iff.1 hs)])
  · exact un_none hv (by
      rw [hu, if_neg]
      intro e
      rw [sameB_iff.2 e] at hs
      cases hs)

set_option maxHeartbeats 400000 in
theorem unpack27_bad (L K : Int) (A : Option Addr) (n c : Nat) (bs : List Bs) (w : World) (hv : vok L K = false) : Calls Tryd.prog 27 #[.int .i64 L, .int .i64 K, .slice A n c] w (Unpacked L K bs w) := by
  have HU := Lib.hid (un_bad (d := bs) hv)
  have HV := Lib.hid hv
  clear hv
  go_enter Tryd.func27, Tryd.ntmps27
  go_wp2_with (go_at_call 15; refine (valid15 _ _ _).mono ?_; rintro e w' ⟨rfl, rfl⟩; rw [HV.out])
  go_ret2
  exact Unpacked.fail HU.out (Below.refl _ _)

set_option maxRecDepth 100000 in
set_option maxHeartbeats 2000000 in
theorem unpack27_ok (L K : Nat) (A : Option Addr) (n c : Nat) (bs : List Bs) (w : World) (C : Codes w) (hL : 1 ≤ L ∧ L ≤ 1000) (hK : 9 ≤ K ∧ K ≤ 1024) (h : StrsAt w A n bs) (hT : total bs ≤ 90000) :
    Calls Tryd.prog 27 #[.int .i64 L, .int .i64 K, .slice A n c] w (Unpacked L K bs w) := by
  have HV := Lib.hid (nat_vok hL hK)
  have HN := Lib.hid h.len
  have hn : n ≤ 90000 := by have := length_total bs; have := h.len; omega
  have H := Lib.hid h
  clear h
  obtain ⟨i0, hi0, hz0, hz1, hz2⟩ := info_parts info43
  have HI := Lib.hid hi0
  have HZ0 := Lib.hid hz0
  have HZ1 := Lib.hid hz1
  have HZ2 := Lib.hid hz2
  clear hi0 hz0 hz1 hz2
  go_enter Tryd.func27, Tryd.ntmps27
  go_wp2_with (go_at_call 15; refine (valid15 _ _ _).mono ?_; rintro e w' ⟨rfl, rfl⟩; rw [HV.out])
  go_loopw [8, 23] (fun all i wr => ∃ (j : Nat) (xs : List Seg), j ≤ n ∧ i = .int .i64 j ∧ Hid (allSegs L K (bs.take j) = some xs) ∧ OwnG wr w.heap.size 43 all xs ∧ Below w.heap.size w wr ∧ weight xs ≤ total (bs.take j)) (fun _ i _ => n - (intOf i).toNat)
  case atStart => exact ⟨0, [], Nat.zero_le _, rfl, rfl, OwnG.nil _ _ _, Below.refl _ _, by simp [weight]⟩
  case round =>
    obtain ⟨j, xs, hj, rfl, hall, hown, hbw, hwt⟩ := hrel
    have hz := hbw.size
    have htj := total_take bs j
    have hxl := weight_len xs
    by_cases hlt : j < n
    · obtain ⟨b, off, s, rfl, hs, hc⟩ := (H.out.below hbw).at_ hlt
      have htt : total (bs.take (j + 1)) = total (bs.take j) + (s.length + 1) := by rw [take_snoc hs, total_snoc]
      have htl := total_take bs (j + 1)
      have hsl : s.length ≤ 90000 := by omega
      have HOWN := Lib.hid hown
      have HBW := Lib.hid hbw
      have CW := Lib.hid (C.below hbw)
      have hsnoc : allSegs L K (bs.take (j + 1)) = (segs L K s).map (xs ++ ·) := by rw [take_snoc hs, allSegs_snoc, hall.out]; rfl
      cases hsg : segs L K s with
      | none =>
        have HU := Lib.hid (un_none HV.out (unpack_segs_none (allSegs_none hs hsg)))
        have HE := Lib.hid (seg_none HV.out hsg)
        clear hs hsg hown hbw hsnoc htt htl htj hxl hwt
        go_wp2_with (go_at_call 18; refine (segs18 _ _ _ _ CW.out (by omega)).mono ?_; rintro e w2 ⟨v2, rfl, hown2, hb2⟩; rw [HE.out.1])
        go_ret2
        exact Unpacked.fail HU.out (HBW.out.trans (hb2.mono hz))
      | some ms =>
        have HE := Lib.hid (seg_some HV.out hsg)
        have hmw := segs_weight hsg
        have hml := weight_len ms
        rw [hsg] at hsnoc
        have HSN := Lib.hid (show allSegs L K (bs.take (j + 1)) = some (xs ++ ms) from hsnoc)
        have hwt2 : weight (xs ++ ms) ≤ total (bs.take (j + 1)) := by rw [weight_append]; omega
        have hll : xs.length + ms.length ≤ 1000000 := by omega
        have HW2 := Lib.hid hwt2
        clear hs hsg hown hbw hsnoc htt htl htj hxl hwt hmw hml hwt2
        go_wp2_with (first | (go_at_call 18; refine (segs18 _ _ _ _ CW.out (by omega)).mono ?_; rintro e w2 ⟨v2, rfl, hown2, hb2⟩; rw [HE.out.1]; rw [HE.out.2] at hown2; have HO2 := Lib.hid hown2; have HB2 := Lib.hid (HBW.out.trans (hb2.mono hz)); have HO := Lib.hid (HOWN.out.below hb2); clear hown2 hb2) | (at_builtin; refine wpList_append_segs rfl (.tmp 37) (.tmp 38) _ rfl w.heap.size 43 i0 _ 24 Tryd.underlying32 HI.out HZ0.out HZ1.out HZ2.out rfl (by decide) _ xs rfl HO.out v2 wr.heap.size ms rfl HO2.out hll HB2.out.size ?_; intro v5 w5 hown5 hb5))
        go_roundw
        case rel => exact ⟨j + 1, xs ++ ms, by omega, by go_num, HSN.out, hown5, HB2.out.trans hb5, HW2.out⟩
        case measure => simp [intOf]; omega
    · have hjn : j = n := by omega
      subst hjn
      have hall2 : allSegs L K bs = some xs := by rw [← hall.out, List.take_of_length_le (by rw [HN.out]; exact Nat.le_refl _)]
      obtain ⟨A8, c8, rfl, hs8, hm8⟩ := hown.cells
      have HS8 := Lib.hid hs8
      have HBW := Lib.hid hbw
      have hxw : xs.length ≤ 90000 := by omega
      have HXD := Lib.hid (show ∀ x ∈ xs, x.d.length ≤ 100000 from fun x hx => by have := weight_mem hx; omega)
      have hxs : weight xs ≤ 90000 := by omega
      clear hs8 hbw hown htj hxl hwt
      cases hjo : join L xs with
      | none =>
        have HU := Lib.hid (un_none HV.out (unpack_join_none hall2 hjo))
        have HE := Lib.hid (jo_none (L := (L : Int)) (l := xs) (by rw [joinI_nat]; exact hjo))
        clear hjo hall2
        go_wp2_with (go_at_call 25; refine (join25 _ _ _ _ _ _ HS8.out (by omega) HXD.out).mono ?_; rintro e w2 ⟨v2, rfl, hown2, hb2⟩; rw [HE.out.1])
        go_ret2
        exact Unpacked.fail HU.out (HBW.out.trans (hb2.mono hz))
      | some rs =>
        have HU := Lib.hid (unpack_full HV.out hall2 hjo)
        have HE := Lib.hid (jo_some (L := (L : Int)) (l := xs) (by rw [joinI_nat]; exact hjo))
        have hrt : total rs ≤ 90000 := by
          have := join_total xs [] false rs hjo
          have e0 : total [] = 0 := rfl
          have e1 : weight xs = (xs.map fun x => x.d.length + 1).sum := rfl
          omega
        have hrb : bad (L : Int) rs = false := bad_none (n := rs.length) rfl (fun k s _ hs => by have := join_le hjo s (List.mem_of_getElem? hs); omega)
        have HP := Lib.hid (packErr_ok HV.out hrb)
        clear hjo hall2 hrb
        go_wp2_with fail
        refine (join25 _ _ _ _ _ _ HS8.out (by omega) HXD.out).mono ?_
        rintro e w2 ⟨v2, rfl, hown2, hb2⟩
        rw [HE.out.1]
        rw [HE.out.2] at hown2
        obtain ⟨A2, n2, c2, rfl, hs2, hm2, -⟩ := hown2.strs
        have HO2 := Lib.hid hown2
        have HS2 := Lib.hid hs2
        have HB2 := Lib.hid (HBW.out.trans (hb2.mono hz))
        clear hown2 hs2 hb2
        go_wp2_with fail
        refine (pack13 _ _ _ _ _ _ _ (C.below HB2.out) HS2.out (by omega)).mono ?_
        rintro e w3 ⟨v3, rfl, hown3, hb3⟩
        rw [HP.out.1]
        rw [HP.out.2] at hown3
        obtain ⟨A3, n3, c3, rfl, hs3, hm3, -⟩ := hown3.strs
        have HS3 := Lib.hid hs3
        have HB3 := Lib.hid (HB2.out.trans (hb3.mono HB2.out.size))
        have HO3 := Lib.hid ((HO2.out.below hb3).base hz)
        clear hown3 hs3 hb3
        by_cases hsame : sameB (packP K rs) bs = true
        · have HU2 := Lib.hid (HU.out.1 hsame)
          have HSM := Lib.hid (show sameB (packP (K : Int).toNat rs) bs = true from hsame)
          clear hsame
          go_wp2_with (go_at_call 35; refine (equal35 _ _ _ _ _ _ _ _ _ HS3.out (H.out.below HB3.out) hm3 (by unfold maxLen; omega)).mono ?_; rintro e w4 ⟨rfl, hb4⟩; rw [HSM.out])
          go_ret2
          exact ⟨_, by rw [HU2.out.1]; rfl, by rw [HU2.out.2]; exact HO3.out.below hb4, HB3.out.trans (hb4.mono HB3.out.size)⟩
        · have hsf : sameB (packP K rs) bs = false := by simpa using hsame
          have HU2 := Lib.hid (HU.out.2 hsf)
          have HSM := Lib.hid (show sameB (packP (K : Int).toNat rs) bs = false from hsf)
          clear hsame hsf
          go_wp2_with (go_at_call 35; refine (equal35 _ _ _ _ _ _ _ _ _ HS3.out (H.out.below HB3.out) hm3 (by unfold maxLen; omega)).mono ?_; rintro e w4 ⟨rfl, hb4⟩; rw [HSM.out])
          go_ret2
          exact Unpacked.fail HU2.out (HB3.out.trans (hb4.mono HB3.out.size))

theorem unpack27 (L K : Int) (A : Option Addr) (n c : Nat) (bs : List Bs) (w : World) (C : Codes w) (h : StrsAt w A n bs) (hT : total bs ≤ 90000) :
    Calls Tryd.prog 27 #[.int .i64 L, .int .i64 K, .slice A n c] w (Unpacked L K bs w) := by
  by_cases hv : vok L K = true
  · obtain ⟨l, k, rfl, rfl, hl, hk⟩ := vok_nat hv
    exact unpack27_ok l k A n c bs w C hl hk h hT
  · exact unpack27_bad L K A n c bs w (by simpa using hv)
end Go.Proofs.YtabpgfcmfflceaaDoor
