/- The walks of fair and of SpannedReturns: it returns true. -/
import Derived.Test.YtabpgfcmfflceaaDoorUnpack
import Derived.Test.YtabpgfcmfflceaaDoorRefPack
import Derived.Test.YtabpgfcmfflceaaDoorRefSeg
import Derived.Test.YtabpgfcmfflceaaDoorAwake
namespace P12
theorem total_append (a b : List Bs) : total (a ++ b) = total a + total b := by simp [total]
theorem total_pieces {K : Nat} (hK : 9 ≤ K) : ∀ (k : Nat) (b : Bool) (r : Bs), r.length ≤ k → r.length ≤ 1000 → total ((pieces K k b r).map fun x => block [x]) ≤ 10 * r.length + 9 := by
  intro k
  induction k with
  | zero =>
    intro b r h _
    have : r = [] := List.eq_nil_of_length_eq_zero (by omega)
    subst this
    simp only [pieces, List.map_cons, List.map_nil, total, List.sum_cons, List.sum_nil]
    rw [length_block (by rw [size_one]; simp), size_one]
    simp
  | succ k ih =>
    intro b r h h1
    rw [pieces]
    by_cases hr : r.length ≤ K - 8
    · rw [if_pos hr]
      simp only [List.map_cons, List.map_nil, total, List.sum_cons, List.sum_nil]
      rw [length_block (by rw [size_one]; simp only; omega), size_one]
      simp only
      omega
    · rw [if_neg hr]
      have := ih true (r.drop (K - 8)) (by simp; omega) (by simp; omega)
      simp only [List.length_drop] at this
      simp only [List.map_cons, total, List.sum_cons] at this ⊢
      rw [length_block (by rw [size_one]; simp; omega), size_one]
      simp only [List.length_take]
      omega
theorem total_tl {K : Nat} (hK : 9 ≤ K) (b : Bool) (r : Bs) (h : r.length ≤ 1000) : total (tl K b r) ≤ 10 * r.length + 9 := total_pieces hK _ b r (Nat.le_refl _) h
theorem total_stepP {K : Nat} (hK : 9 ≤ K) {out : List Bs} {r : Bs} (hr : r.length ≤ 1000) (hb : ∀ b ∈ out, 8 ≤ b.length ∧ b.length ≤ 1024) : total (stepP K out r) ≤ total out + (10 * r.length + 13) := by
  rcases List.eq_nil_or_concat out with rfl | ⟨l, x, rfl⟩
  · rw [stepP_nil]
    have : (addP K [] r).2 = tl K false r := by unfold addP; rw [if_pos rfl]
    rw [this, List.nil_append]
    have := total_tl hK false r hr
    omega
  · rw [List.concat_eq_append] at hb ⊢
    have hx := hb x (by simp)
    have hxne : x ≠ [] := fun e => by rw [e] at hx; simp at hx
    unfold stepP putP
    rw [List.getLast?_concat, List.dropLast_concat, Option.getD_some, total_append, total_append, total_append]
    unfold addP
    rw [if_neg hxne]
    by_cases h1 : x.length + 4 + r.length ≤ K
    · rw [if_pos h1]
      dsimp only
      rw [if_neg (whole_ne _ (by simp [form_ne]))]
      simp only [total, List.map_cons, List.map_nil, List.sum_cons, List.sum_nil]
      rw [length_whole (by rw [List.length_append, length_form]; simp; omega), List.length_append, length_form]
      simp only [List.length_drop]
      omega
    · rw [if_neg h1]
      by_cases h2 : x.length + 4 < K
      · rw [if_pos h2]
        dsimp only
        rw [if_neg (whole_ne _ (by simp [form_ne]))]
        have := total_tl hK true (r.drop (K - (x.length + 4))) (by simp; omega)
        simp only [total, List.map_cons, List.map_nil, List.sum_cons, List.sum_nil, List.length_drop] at this ⊢
        rw [length_whole (by rw [List.length_append, length_form]; simp; omega), List.length_append, length_form]
        simp only [List.length_drop, List.length_take]
        omega
      · rw [if_neg h2]
        dsimp only
        rw [if_pos rfl, if_neg hxne]
        have := total_tl hK false r hr
        omega
theorem total_packP {K L : Nat} (hK : 9 ≤ K ∧ K ≤ 1024) (hL : L ≤ 1000) : ∀ (rs : List Bs), (∀ r ∈ rs, r.length ≤ L) → total (packP K rs) ≤ 13 * total rs := by
  have key : ∀ (n : Nat) (rs : List Bs), rs.length = n → (∀ r ∈ rs, r.length ≤ L) → total (packP K rs) ≤ 13 * total rs := by
    intro n
    induction n with
    | zero => intro rs hn _; rw [List.eq_nil_of_length_eq_zero hn]; simp [packP, total]
    | succ n ih =>
      intro rs hn h
      rcases List.eq_nil_or_concat rs with rfl | ⟨qs, q, rfl⟩
      · simp at hn
      · rw [List.concat_eq_append] at hn h ⊢
        have hq : ∀ r ∈ qs, r.length ≤ L := fun r hr => h r (by simp [hr])
        have h1 := ih qs (by simpa using hn) hq
        have h3 := h q (by simp)
        have h2 := total_stepP (K := K) hK.1 (out := packP K qs) (r := q) (by omega) (fun b hb => by have := packP_blocks hK hq b hb; omega)
        rw [packP_snoc, total_snoc]
        omega
  exact fun rs => key _ rs rfl
end P12
namespace Go.Proofs.YtabpgfcmfflceaaDoor
open Go.RowKit P12 Go.Sort
attribute [local go_sem] ByteArray.mk_append_mk ByteArray.extract_mk mk_index

def fairL (L : Int) (ss : List Bs) : List Bs := ss.filter fun s => decide ((s.length : Int) ≤ L)
theorem fair_take {L : Int} {ss : List Bs} {k : Nat} {s : Bs} (h : ss[k]? = some s) : fairL L (ss.take (k + 1)) = if (s.length : Int) ≤ L then fairL L (ss.take k) ++ [s] else fairL L (ss.take k) := by
  unfold fairL
  rw [take_snoc h, List.filter_append]
  by_cases hl : (s.length : Int) ≤ L <;> simp [hl]
theorem fair_le {L : Int} {ss : List Bs} {r : Bs} (h : r ∈ fairL L ss) : (r.length : Int) ≤ L := by
  have := List.mem_filter.1 h
  simpa using this.2
theorem fair_mem {L : Int} {ss : List Bs} {r : Bs} (h : r ∈ fairL L ss) : r ∈ ss := (List.mem_filter.1 h).1
theorem fair_total {L : Int} {ss : List Bs} (h : fewB ss 20 300 = true) : total (fairL L ss) ≤ 6020 := by
  obtain ⟨h1, h2⟩ := few_yes h
  have := total_le (rs := fairL L ss) (M := 300) (fun r hr => by have := h2 r (fair_mem hr); omega)
  have hl : (fairL L ss).length ≤ ss.length := List.length_filter_le _ _
  have : 301 * (fairL L ss).length ≤ 301 * 20 := Nat.mul_le_mul_left _ (by omega)
  omega

set_option maxHeartbeats 1000000 in
theorem fair22 (L : Int) (A : Option Addr) (n c : Nat) (ss : List Bs) (w : World) (h : StrsAt w A n ss) (hn : n ≤ 1000000) :
    Calls Tryd.prog 22 #[.int .i64 L, .slice A n c] w fun e w' => ∃ v, e = .returned v ∧ OwnS w' w.heap.size 9 v (fairL L ss) ∧ Below w.heap.size w w' := by
  have H := Lib.hid h
  clear h
  obtain ⟨i0, hi0, hz0, hz1, hz2⟩ := info_parts info9
  have HI := Lib.hid hi0
  have HZ0 := Lib.hid hz0
  have HZ1 := Lib.hid hz1
  have HZ2 := Lib.hid hz2
  clear hi0 hz0 hz1 hz2
  go_enter Tryd.func22, Tryd.ntmps22
  go_wp2
  go_loopw [5, 11] (fun out i wr => ∃ (k : Nat) (xs : List Bs), k ≤ n ∧ i = .int .i64 k ∧ Hid (xs = fairL L (ss.take k)) ∧ OwnS wr w.heap.size 9 out xs ∧ Below w.heap.size w wr ∧ xs.length ≤ k) (fun _ i _ => n - (intOf i).toNat)
  case atStart => exact ⟨0, [], Nat.zero_le _, rfl, rfl, OwnS.empty _ _ _ (Nat.le_refl _), below_alloc (Below.refl _ _) _, by simp⟩
  case round =>
    obtain ⟨k, xs, hk, rfl, hx, hown, hbw, hxl⟩ := hrel
    have hsz := hbw.size
    by_cases hlt : k < n
    · obtain ⟨b, off, s, rfl, hs, hc⟩ := (H.out.below hbw).at_ hlt
      have HF := Lib.hid (fair_take (L := L) hs)
      clear hs
      by_cases hl : (s.length : Int) ≤ L
      · go_wp2_with (at_builtin; refine wpList_append_str rfl (.tmp 19) (.tmp 21) _ rfl w.heap.size 9 i0 _ Tryd.underlying22 HI.out HZ0.out HZ1.out HZ2.out rfl _ xs rfl (hown.alloc _) s ⟨wr.heap.size, 0, none⟩ 1 rfl (by simp) (by omega) (by simp; omega) ?_; intro v3 w3 hown3 hb3 _ _)
        go_roundw
        case rel =>
          refine ⟨k + 1, xs ++ [s], by omega, by go_num, ?_, hown3, (hbw.alloc hsz _).trans hb3, by simp; omega⟩
          show _ = _
          rw [HF.out, if_pos hl, hx.out]
        case measure => simp [intOf]; omega
      · go_wp2
        go_roundw
        case rel =>
          refine ⟨k + 1, xs, by omega, by go_num, ?_, hown, hbw, by omega⟩
          show _ = _
          rw [HF.out, if_neg hl, hx.out]
        case measure => simp [intOf]; omega
    · have hkn : k = n := by omega
      subst hkn
      have hx2 : xs = fairL L ss := by rw [hx.out, List.take_of_length_le (by have := H.out.len; omega)]
      go_wp2
      go_ret
      exact ⟨_, rfl, by rw [← hx2]; exact hown, hbw⟩


theorem allSegs_weight {L K : Nat} : ∀ (bs : List Bs) (ls : List Seg), allSegs L K bs = some ls → weight ls ≤ total bs := by
  intro bs
  induction bs with
  | nil => intro ls h; simp only [allSegs, Option.some.injEq] at h; subst h; simp [weight]
  | cons b bs ih =>
    intro ls h
    rw [allSegs] at h
    split at h
    · cases h
    · rename_i m hm
      obtain ⟨q, hq, rfl⟩ := Option.map_eq_some_iff.1 h
      have := ih q hq
      have := segs_weight hm
      rw [weight_append]
      simp only [total, List.map_cons, List.sum_cons] at *
      omega

/-- What the blocks of fair records are. -/
structure Fair (L K : Nat) (rs : List Bs) (gs : List (List Seg)) : Prop where
  perr : packErr L K rs = 0
  pout : packOut L K rs = gs.map block
  uerr : unErr L K (gs.map block) = 0
  uout : unOut L K (gs.map block) = rs
  jerr : joErr L gs.flatten = 0
  jout : joOut L gs.flatten = rs
  inv : Inv L K gs rs
  tot : total (gs.map block) ≤ 90000
  wei : weight gs.flatten ≤ 90000
theorem fair_facts {L K : Nat} (hL : 1 ≤ L ∧ L ≤ 1000) (hK : 9 ≤ K ∧ K ≤ 1024) {rs : List Bs} (hle : ∀ r ∈ rs, (r.length : Int) ≤ (L : Int)) (hT : total rs ≤ 6020) : Fair L K rs (packS K rs) := by
  have hv := nat_vok hL hK
  have hle' : ∀ r ∈ rs, r.length ≤ L := fun r hr => by have := hle r hr; omega
  have hb : bad (L : Int) rs = false := bad_none (n := rs.length) rfl (fun j s _ hs => hle s (List.mem_of_getElem? hs))
  obtain ⟨p1, p2⟩ := packErr_ok (K := (K : Int)) hv hb
  have he : packP K rs = (packS K rs).map block := packP_eq hK rs hle'
  obtain ⟨u1, u2, u3⟩ := unpack_pack hL.2 hK hle'
  obtain ⟨v1, v2⟩ := un_some hv u3
  obtain ⟨j1, j2⟩ := jo_some (L := (L : Int)) (l := (packS K rs).flatten) (by rw [joinI_nat]; exact u2)
  have ht : total (packP K rs) ≤ 90000 := by have := total_packP hK hL.2 rs hle'; omega
  have hw := allSegs_weight _ _ u1
  rw [he] at v1 v2 ht hw
  exact ⟨p1, p2.trans he, v1, v2, j1, j2, packS_inv hK.1 hle', ht, by omega⟩

set_option maxRecDepth 100000 in
set_option maxHeartbeats 2000000 in
theorem returns9 (L K : Int) (A : Option Addr) (n c : Nat) (ss : List Bs) (w : World) (C : Codes w) (h : StrsAt w A n ss) (hn : n ≤ maxLen) :
    Calls Tryd.prog 9 #[.int .i64 L, .int .i64 K, .slice A n c] w fun e w' => e = .returned (.bool true) ∧ Below w.heap.size w w' := by
  have H := Lib.hid h
  have HN := Lib.hid h.len
  clear h
  by_cases hf : fewB ss 20 300 = true
  · have HF := Lib.hid hf
    have hn20 : n ≤ 20 := by have := (few_yes hf).1; have := HN.out; omega
    have hft := fair_total (L := L) hf
    clear hf
    by_cases hv : vok L K = true
    · have HV := Lib.hid hv
      obtain ⟨l, k, rfl, rfl, hl, hk⟩ := vok_nat hv
      have HG := Lib.hid (fair_facts hl hk (fun r hr => fair_le hr) hft)
      have htt := HG.out.tot
      have hww := HG.out.wei
      have hgl : (packS k (fairL (l : Int) ss)).length ≤ 90000 := by have := length_total ((packS k (fairL (l : Int) ss)).map block); simp at this; omega
      clear hv
      obtain ⟨i0, hi0, hz0, hz1, hz2⟩ := info_parts info43
      have HI := Lib.hid hi0
      have HZ0 := Lib.hid hz0
      have HZ1 := Lib.hid hz1
      have HZ2 := Lib.hid hz2
      clear hi0 hz0 hz1 hz2
      go_enter Tryd.func9, Tryd.ntmps9
      go_wp2_with fail
      refine (awake11 _ C).mono ?_
      rintro e w1 ⟨rfl, hb1⟩
      have HB1 := Lib.hid (hb1)
      clear hb1
      go_wp2_with fail
      refine (few12 _ _ _ _ _ _ _ (H.out.below HB1.out) hn).mono ?_
      rintro e w2 ⟨rfl, hb2⟩
      rw [HF.out]
      have HB2 := Lib.hid (below_then HB1.out hb2)
      clear hb2
      go_wp2_with (first | (go_at_call 15; refine (valid15 _ _ _).mono ?_; rintro e w' ⟨rfl, rfl⟩; rw [HV.out]) | (go_at_call 22; fail))
      refine (fair22 _ _ _ _ _ _ (H.out.below HB2.out) (by omega)).mono ?_
      rintro e w3 ⟨v3, rfl, hown3, hb3⟩
      obtain ⟨A3, n3, c3, rfl, hs3, hn3, -⟩ := hown3.strs
      have HB3 := Lib.hid (below_then HB2.out hb3)
      have HS3 := Lib.hid hs3
      clear hown3 hb3 hs3
      go_wp2_with fail
      refine (pack13 _ _ _ _ _ _ _ (C.below HB3.out) HS3.out (by omega)).mono ?_
      rintro e w4 ⟨v4, rfl, hown4, hb4⟩
      rw [HG.out.perr]
      rw [HG.out.pout] at hown4
      obtain ⟨A4, n4, c4, rfl, hs4, hn4, h4l⟩ := hown4.strs
      have HB4 := Lib.hid (below_then HB3.out hb4)
      have HS4 := Lib.hid hs4
      have HS3' := Lib.hid (HS3.out.below hb4)
      have hn4' : n4 ≤ 90000 := by simp at h4l; omega
      have HL4 := Lib.hid (show (packS k (fairL (l : Int) ss)).length = n4 from by simp at h4l; omega)
      clear hown4 hb4 hs4 HS3 h4l
      go_wp2_with fail
      refine (unpack27 _ _ _ _ _ _ _ (C.below HB4.out) HS4.out (by omega)).mono ?_
      rintro e w5 ⟨v5, rfl, hown5, hb5⟩
      rw [HG.out.uerr]
      rw [HG.out.uout] at hown5
      obtain ⟨A5, n5, c5, rfl, hs5, hn5, -⟩ := hown5.strs
      have HB5 := Lib.hid (below_then HB4.out hb5)
      have HS5 := Lib.hid hs5
      have HS3 := Lib.hid (HS3'.out.below hb5)
      have HS4' := Lib.hid (HS4.out.below hb5)
      clear hown5 hb5 hs5 HS3' HS4
      go_wp2_with fail
      refine (same17 _ _ _ _ _ _ _ _ _ HS5.out HS3.out hn5 hn3).mono ?_
      rintro e w6 ⟨rfl, hb6⟩
      rw [sameB_refl]
      have HB6 := Lib.hid (below_then HB5.out hb6)
      have HS3' := Lib.hid (HS3.out.below hb6)
      have HS4 := Lib.hid (HS4'.out.below hb6)
      have hz6 := HB6.out.size
      have HBX := Lib.hid (HB6.out.alloc hz6 (.cells #[] 43))
      clear hb6 HS3 HS4' HS5
      go_wp2
      go_loopw [12, 65] (fun all i wr => ∃ (j : Nat) (xs : List Seg), j ≤ n4 ∧ i = .int .i64 j ∧ Hid (xs = ((packS k (fairL (l : Int) ss)).take j).flatten) ∧ OwnG wr w6.heap.size 43 all xs ∧ Below w6.heap.size w6 wr ∧ weight xs ≤ 90000) (fun _ i _ => n4 - (intOf i).toNat)
      case atStart => exact ⟨0, [], Nat.zero_le _, rfl, rfl, OwnG.empty _ _ _ (Nat.le_refl _), below_alloc (Below.refl _ _) _, by simp [weight]⟩
      case round =>
        obtain ⟨j, xs, hj, rfl, hxs, hown, hbw, hwt⟩ := hrel
        have hz := hbw.size
        have hxl := weight_len xs
        have CW := Lib.hid ((C.below HB6.out).below hbw)
        by_cases hlt : j < n4
        · obtain ⟨b, off, s, rfl, hs, hc⟩ := (HS4.out.below hbw).at_ hlt
          rw [List.getElem?_map] at hs
          obtain ⟨g, hg, rfl⟩ := Option.map_eq_some_iff.1 hs
          have hgr := HG.out.inv.group g (List.mem_of_getElem? hg)
          obtain ⟨hsg, hbl⟩ := hgr.segs hl.2 hk.2
          have hsm := hgr.small
          have hgp : 0 < g.length := List.length_pos_iff.2 hgr.ne
          have hg0 : ((g.length : Int) == 0) = false := beq_not (by omega)
          have HE := Lib.hid (seg_some HV.out hsg)
          have htk : ((packS k (fairL (l : Int) ss)).take (j + 1)).flatten = xs ++ g := by rw [take_snoc hg, List.flatten_append, hxs.out]; simp
          have hw2 : weight (xs ++ g) ≤ 90000 := by
            rw [← htk]
            have e1 : weight (packS k (fairL (l : Int) ss)).flatten = weight ((packS k (fairL (l : Int) ss)).take (j + 1)).flatten + weight ((packS k (fairL (l : Int) ss)).drop (j + 1)).flatten := by
              rw [← weight_append, ← List.flatten_append, List.take_append_drop]
            omega
          have hgw := weight_len g
          rw [weight_append] at hw2
          have hbk : (block g).length ≤ k := by omega
          have hw3 : weight (xs ++ g) ≤ 90000 := by rw [weight_append]; exact hw2
          have HTK := Lib.hid htk
          have HOWN := Lib.hid hown
          have HBW := Lib.hid hbw
          have hb1024 : (block g).length ≤ 100000 := by omega
          have hll : xs.length + g.length ≤ 1000000 := by omega
          clear hs hg hsg hbl hsm htk hown hbw hgw hw2 hgr
          go_wp2_with (first | (go_at_call 18; refine (segs18 _ _ _ _ CW.out hb1024).mono ?_; rintro e w7 ⟨v7, rfl, hown7, hb7⟩; rw [HE.out.1]; rw [HE.out.2] at hown7; obtain ⟨A7, c7, rfl, -, -⟩ := hown7.cells; have HO7 := Lib.hid hown7; have HB7 := Lib.hid (HBW.out.trans (hb7.mono hz)); have HO := Lib.hid (HOWN.out.below hb7); clear hown7 hb7) | (at_builtin; refine wpList_append_segs rfl (.tmp 89) (.tmp 90) _ rfl w6.heap.size 43 i0 _ 24 Tryd.underlying32 HI.out HZ0.out HZ1.out HZ2.out rfl (by decide) _ xs rfl HO.out _ wr.heap.size g rfl HO7.out hll HB7.out.size ?_; intro v8 w8 hown8 hb8))
          go_roundw
          case rel => exact ⟨j + 1, xs ++ g, by omega, by go_num, HTK.out.symm, hown8, HB7.out.trans hb8, hw3⟩
          case measure => simp [intOf]; omega
        · have hjn : j = n4 := by omega
          subst hjn
          have hxs2 : xs = (packS k (fairL (l : Int) ss)).flatten := by rw [hxs.out, List.take_of_length_le (by rw [HL4.out]; exact Nat.le_refl _)]
          have HXD := Lib.hid (show ∀ x ∈ xs, x.d.length ≤ 100000 from fun x hx => by have := weight_mem hx; omega)
          have HJ := Lib.hid (show joErr (l : Int) xs = 0 ∧ joOut (l : Int) xs = fairL (l : Int) ss from by rw [hxs2]; exact ⟨HG.out.jerr, HG.out.jout⟩)
          obtain ⟨A8, c8, rfl, hs8, hm8⟩ := hown.cells
          have HS8 := Lib.hid hs8
          have HBW := Lib.hid (below_then_ HB6.out hbw)
          have HS3 := Lib.hid (HS3'.out.below hbw)
          have hxl2 : xs.length ≤ 100000 := by omega
          clear hxs2 hown hs8 hbw HS3' hxs
          go_wp2_with fail
          refine (join25 _ _ _ _ _ _ HS8.out hxl2 HXD.out).mono ?_
          rintro e w9 ⟨v9, rfl, hown9, hb9⟩
          rw [HJ.out.1]
          rw [HJ.out.2] at hown9
          obtain ⟨A9, n9, c9, rfl, hs9, hn9, -⟩ := hown9.strs
          have HB9 := Lib.hid (below_then_ HBW.out hb9)
          have HS9 := Lib.hid hs9
          have HS3' := Lib.hid (HS3.out.below hb9)
          clear hown9 hb9 hs9 HS3
          go_wp2_with (go_at_call 17; refine (same17 _ _ _ _ _ _ _ _ _ HS9.out HS3'.out hn9 hn3).mono ?_; rintro e w10 ⟨rfl, hb10⟩; rw [sameB_refl])
          go_ret
          exact ⟨rfl, below_then_ HB9.out hb10⟩
    · have hv' : vok L K = false := by simpa using hv
      have HV := Lib.hid hv'
      clear hv hv'
      go_enter Tryd.func9, Tryd.ntmps9
      go_wp2_with fail
      refine (awake11 _ C).mono ?_
      rintro e w1 ⟨rfl, hb1⟩
      have HB1 := Lib.hid (hb1)
      clear hb1
      go_wp2_with fail
      refine (few12 _ _ _ _ _ _ _ (H.out.below HB1.out) hn).mono ?_
      rintro e w2 ⟨rfl, hb2⟩
      rw [HF.out]
      have HB2 := Lib.hid (below_then HB1.out hb2)
      clear hb2
      go_wp2_with (first | (go_at_call 15; refine (valid15 _ _ _).mono ?_; rintro e w' ⟨rfl, rfl⟩; rw [HV.out]) | (go_at_call 11; fail))
      refine (awake11 _ (C.below HB2.out)).mono ?_
      rintro e w3 ⟨rfl, hb3⟩
      have HB3 := Lib.hid (below_then HB2.out hb3)
      go_wp2_with fail
      go_ret
      exact ⟨rfl, HB3.out⟩
  · have hf' : fewB ss 20 300 = false := by simpa using hf
    have HF := Lib.hid hf'
    clear hf hf'
    go_enter Tryd.func9, Tryd.ntmps9
    go_wp2_with fail
    refine (awake11 _ C).mono ?_
    rintro e w1 ⟨rfl, hb1⟩
    have HB1 := Lib.hid (hb1)
    clear hb1
    go_wp2_with fail
    refine (few12 _ _ _ _ _ _ _ (H.out.below HB1.out) hn).mono ?_
    rintro e w2 ⟨rfl, hb2⟩
    rw [HF.out]
    have HB2 := Lib.hid (below_then HB1.out hb2)
    clear hb2
    go_wp2_with fail
    refine (awake11 _ (C.below HB2.out)).mono ?_
    rintro e w3 ⟨rfl, hb3⟩
    have HB3 := Lib.hid (below_then HB2.out hb3)
    clear hb3
    go_wp2_with fail
    go_ret
    exact ⟨rfl, HB3.out⟩
end Go.Proofs.YtabpgfcmfflceaaDoor
