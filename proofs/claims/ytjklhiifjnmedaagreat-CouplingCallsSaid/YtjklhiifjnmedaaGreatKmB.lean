/- The reference's grant, Cancel and Release. The reference's Cancel and Release. The reference's Request. -/
import Derived.Test.YtjklhiifjnmedaaGreatKmA
import Derived.Test.YtjklhiifjnmedaaGreatLkReqB
namespace Go.Proofs.YtjklhiifjnmedaaGreat
open Go.RowKit P16 P46 Go.Sort
attribute [local go_sem] ByteArray.mk_append_mk ByteArray.extract_mk mk_index
attribute [local irreducible] wpQuiet

/-- A slice that reads as locks, and whose block is one of X. -/
def SL (w : World) (X : Nat → Prop) (v : Value) (ls : List Lock) : Prop := ∃ A n c, v = .slice A n c ∧ LocksAt w A n ls ∧ (A = none → n = 0) ∧ n ≤ c ∧ ∀ b off, A = some ⟨b, off, none⟩ → b < w.heap.size ∧ X b
/-- .. as it came in, or a row of the call's own. -/
def SLv (w wr : World) (X : Nat → Prop) (v : Value) (ls : List Lock) : Prop := SL w X v ls ∨ OwnL wr w.heap.size tL v ls
theorem wp_load_cells {P : Program} {w : World} {o : Oper} {a : Act} {K : Act → World → Prop} {Q : Exit → Act → World → Prop} (ty : TypeId) (x : Operand) (ho : o.op = .load ty x)
    (ad : Addr) (hx : a.eval x = .pointer (some ad)) (cs : Array Value) (d : TypeDesc) (hc : ∀ j u, cs[j]? = some u → w.cell? (ad.add j) = some u)
    (hu : P.underlying ty = some d) (hd : (match d with | .struct _ | .array _ _ => true | _ => false) = true) (hi : (P.info? ty).map (·.size) = some cs.size)
    (h : K (a.put o.dst (.agg cs)) w) : o.wp P a w K Q := by
  unfold Oper.wp execOp
  simp only [ho, hx, Instr.loadAt, Instr.sureAddr, Sem.run_bind, Sem.run_pure, Result.andThen_ok, run_loadVar_cells w ad ty cs d hc hu hd hi]
  exact h
theorem OwnL.cap2 {w : World} {B : Nat} {e : TypeId} {A : Option Addr} {n c : Nat} {ls : List Lock} (h : OwnL w B e (.slice A n c) ls) : n ≤ c ∧ (A = none → n = 0) ∧ ∀ b off, A = some ⟨b, off, none⟩ → B ≤ b ∧ b < w.heap.size := by
  rcases h.2 with ⟨h1, h0⟩ | ⟨g, cap, cur, h1, hg, hb, h2, _⟩
  · injection h1 with h3 h4 h5
    subst h3
    exact ⟨by omega, fun _ => by omega, fun b off e => by cases e⟩
  · injection h1 with h3 h4 h5
    subst h3
    refine ⟨by omega, (fun e => by cases e), fun b off e => ?_⟩
    injection e with e
    injection e with e1 e2
    subst e1
    exact ⟨hg, (Array.getElem?_eq_some_iff.1 hb).1⟩
theorem OwnL.of_row {w : World} {B C n : Nat} {v : Value} {ls : List Lock} (h : RowAt w B tL 6 n (lcs ls) v) (hn : ls.length = n) (hC : C ≤ B) : OwnL w C tL v ls := by
  subst hn
  exact OwnL.base h hC
section
variable {w wr w' : World} {X : Nat → Prop} {v : Value} {ls : List Lock}
theorem SL.below (h : SL w X v ls) (hb : Below w.heap.size w w') : SL w' X v ls := by
  obtain ⟨A, n, c, rfl, h1, h2, h3, h4⟩ := h
  exact ⟨A, n, c, rfl, h1.below hb, h2, h3, fun b off e => ⟨Nat.lt_of_lt_of_le (h4 b off e).1 hb.size, (h4 b off e).2⟩⟩
theorem SL.own {B : Nat} (h : OwnL w B tL v ls) (hX : ∀ b, B ≤ b → X b) : SL w X v ls := by
  obtain ⟨A, c, rfl, h1, _⟩ := h.cells
  have h2 := h.cap2
  exact ⟨A, _, c, rfl, h1, h2.2.1, h2.1, fun b off e => ⟨(h2.2.2 b off e).2, hX b (h2.2.2 b off e).1⟩⟩
theorem SL.mono {Y : Nat → Prop} (h : SL w X v ls) (hX : ∀ b, b < w.heap.size → X b → Y b) : SL w Y v ls := by
  obtain ⟨A, n, c, rfl, h1, h2, h3, h4⟩ := h
  exact ⟨A, n, c, rfl, h1, h2, h3, fun b off e => ⟨(h4 b off e).1, hX b (h4 b off e).1 (h4 b off e).2⟩⟩
theorem SLv.open_ (h : SLv w wr X v ls) (hb : Below w.heap.size w wr) : ∃ A n c, v = .slice A n c ∧ LocksAt wr A n ls ∧ (A = none → n = 0) ∧ n ≤ c := by
  rcases h with h | h
  · obtain ⟨A, n, c, rfl, h1, h2, h3, _⟩ := h
    exact ⟨A, n, c, rfl, h1.below hb, h2, h3⟩
  · obtain ⟨A, c, rfl, h1, _⟩ := h.cells
    exact ⟨A, _, c, rfl, h1, h.cap2.2.1, h.cap2.1⟩
theorem SLv.below (h : SLv w wr X v ls) (hb : Below wr.heap.size wr w') : SLv w w' X v ls := h.imp id (fun h => h.below hb)
theorem SLv.close (h : SLv w wr X v ls) (hb : Below w.heap.size w wr) (hX : ∀ b, w.heap.size ≤ b → X b) : SL wr X v ls := by
  rcases h with h | h
  · exact h.below hb
  · exact SL.own h hX
theorem SLv.setCell (h : SLv w wr X v ls) {p : Nat} {cs : Array Value} (hp : Blk wr p tS cs) (i : Nat) (u : Value) : SLv w (wr.setCell ⟨p, i, none⟩ u) X v ls :=
  h.imp id (fun h => h.setCell (own_neR h hp (by decide)) _)
theorem SLv.grown {B : Nat} {vo : Value} {xs : List Int} (h : SLv w wr X v ls) (ho : OwnI wr B vo xs) (hg : wr.grownBy w' vo.ownBlock) : SLv w w' X v ls :=
  h.imp id (fun h => h.kept hg (own_apartI h ho))
end
theorem lcs_drop (ls : List Lock) : ∀ k, (lcs ls).drop (k * 6) = lcs (ls.drop k) := by
  induction ls with
  | nil => intro k; simp [lcs_nil]
  | cons l ls ih =>
    intro k
    cases k with
    | zero => simp
    | succ k =>
      rw [lcs_cons, List.drop_succ_cons, ← ih k, show (k + 1) * 6 = (lc l).length + k * 6 from by simp [lc]; omega, ← List.drop_drop, List.drop_left]
theorem OwnI.setCell {w : World} {B : Nat} {v : Value} {xs : List Int} (h : OwnI w B v xs) {p : Addr} (hp : v.ownBlock ≠ some p.block) (u : Value) : OwnI (w.setCell p u) B v xs := by
  refine ⟨h.1, ?_⟩
  rcases h.2 with h1 | ⟨g, cap, cur, rfl, a2, a3, a4⟩
  · exact .inl h1
  · refine .inr ⟨g, cap, cur, rfl, a2, ?_, a4⟩
    rw [Below.heap_setCell]
    · exact a3
    · intro e
      exact hp (by simp [Value.ownBlock, e])
/-- grant at work: the state's box, the result's, the numbers granted. -/
structure RG (w wr : World) (p r : Nat) (X : Nat → Prop) (v1 v2 vo : Value) (hs qs : List Lock) (outs : List Int) : Prop where
  box : Blk wr p tS #[v1, v2]
  res : Blk wr r tS #[.slice none 0 0, .slice none 0 0]
  pb : w.heap.size ≤ p ∧ w.heap.size ≤ r ∧ r ≠ p
  held : SLv w wr X v1 hs
  queue : SLv w wr X v2 qs
  out : OwnI wr w.heap.size vo outs
  low : Below w.heap.size w wr
section
variable {w wr w' : World} {p r : Nat} {X : Nat → Prop} {v1 v2 vo vo' u : Value} {hs qs hs' qs' : List Lock} {outs outs' : List Int}
theorem RG.below (k : RG w wr p r X v1 v2 vo hs qs outs) (hb : Below wr.heap.size wr w') : RG w w' p r X v1 v2 vo hs qs outs :=
  ⟨k.box.below hb, k.res.below hb, k.pb, k.held.below hb, k.queue.below hb, k.out.below hb, k.low.trans (hb.mono k.low.size)⟩
theorem RG.putQ (k : RG w wr p r X v1 v2 vo hs qs outs) (ho : OwnL wr w.heap.size tL u qs') : RG w (wr.setCell ⟨p, 1, none⟩ u) p r X v1 u vo hs qs' outs :=
  ⟨by simpa using k.box.put 1 u, k.res.far k.pb.2.2 u, k.pb, k.held.setCell k.box 1 u, .inr (ho.setCell (own_neR ho k.box (by decide)) _), k.out.setCell (fun e => ownI_ne k.out k.box (by decide) e.symm) _, k.low.setCell k.pb.1 _⟩
theorem RG.putH (k : RG w wr p r X v1 v2 vo hs qs outs) (ho : OwnL wr w.heap.size tL u hs') : RG w (wr.setCell ⟨p, 0, none⟩ u) p r X u v2 vo hs' qs outs :=
  ⟨by simpa using k.box.put 0 u, k.res.far k.pb.2.2 u, k.pb, .inr (ho.setCell (own_neR ho k.box (by decide)) _), k.queue.setCell k.box 0 u, k.out.setCell (fun e => ownI_ne k.out k.box (by decide) e.symm) _, k.low.setCell k.pb.1 _⟩
theorem RG.push {ob : Obj} (k : RG w wr p r X v1 v2 vo hs qs outs) (hg : (wr.alloc ob).grownBy w' vo.ownBlock) (ho : OwnI w' w.heap.size vo' outs') : RG w w' p r X v1 v2 vo' hs qs outs' := by
  have hz := k.low.size
  have hb := below_alloc (Below.refl _ wr) ob
  have ka := k.below hb
  exact ⟨ka.box.grown hg (ownI_ne ka.out ka.box (by decide)), ka.res.grown hg (ownI_ne ka.out ka.res (by decide)), k.pb, ka.held.grown ka.out hg, ka.queue.grown ka.out hg, ho, (k.low.alloc hz _).grown hg (by rw [World.size_alloc]; omega) (fun j hj => (k.out.lt j hj).1)⟩
end
theorem sub_less {k n : Nat} (h : k < n) : k + (n - (k + 1)) - k < n - k := by omega
theorem grantGo_wait {h pre rest : List Lock} {l : Lock} {out : List Int} (hb : blks h pre l ≠ []) : grantGo h pre (l :: rest) out = grantGo h (pre ++ [l]) rest out := by rw [grantGo, if_neg hb]
theorem grantGo_give {h pre rest : List Lock} {l : Lock} {out : List Int} (hb : blks h pre l = []) : grantGo h pre (l :: rest) out = grantGo (h ++ [l]) pre rest (out ++ [l.unit]) := by rw [grantGo, if_pos hb]
/-- What grant leaves. -/
def GRes (w : World) (X : Nat → Prop) (s : St) (outs : List Int) (e : Ending) (w' : World) : Prop :=
  ∃ v1 v2 vo, e = .returned (.tuple #[.agg #[v1, v2], vo]) ∧ SL w' X v1 s.h ∧ SL w' X v2 s.q ∧ OwnI w' w.heap.size vo outs ∧ Below w.heap.size w w'
set_option maxRecDepth 100000 in
set_option maxHeartbeats 8000000 in
theorem refGrant (X : Nat → Prop) (v1 v2 : Value) (h q : List Lock) (w : World) (hh : SL w X v1 h) (hq : SL w X v2 q) (hX : ∀ b, w.heap.size ≤ b → X b) (hn : h.length + q.length ≤ 90000) :
    Calls Tryz.prog 59 #[.agg #[v1, v2]] w (GRes w X (grant ⟨h, q⟩).1 (grant ⟨h, q⟩).2) := by
  have HH := Lib.hid hh
  have HQ := Lib.hid hq
  have HXX := Lib.hid hX
  have HN := Lib.hid hn
  clear hh hq hX hn
  have hlenL : (Tryz.prog.info? 30).map (·.size) = some 6 := by kernel_rfl
  have hlenS : (Tryz.prog.info? tS).map (·.size) = some 2 := by kernel_rfl
  obtain ⟨i0, hi0, hz0, hz1, hz2⟩ := info_parts infoL
  have HI := Lib.hid hi0
  have HZ0 := Lib.hid hz0
  have HZ1 := Lib.hid hz1
  have HZ2 := Lib.hid hz2
  clear hi0 hz0 hz1 hz2
  obtain ⟨i1, hi1, hy0, hy1, hy2⟩ := info_parts infoI
  have HI1 := Lib.hid hi1
  have HY0 := Lib.hid hy0
  have HY1 := Lib.hid hy1
  have HY2 := Lib.hid hy2
  clear hi1 hy0 hy1 hy2
  go_enter Tryz.func59, Tryz.ntmps59
  go_upto_region 1 with (fail)
  obtain ⟨w1, p, r, e1, e2, e3, hb1, h1, h2⟩ := boxes2 w tS #[v1, v2] #[.slice none 0 0, .slice none 0 0]
  rw [e1, e3, e2]
  have hp0 : w.heap.size ≤ p := by omega
  have hr0 : w.heap.size ≤ r := by omega
  have hpr : r ≠ p := by omega
  have HB1 := Lib.hid hb1
  have HS1 := Lib.hid h1
  have HR1 := Lib.hid h2
  have hz1 := hb1.size
  clear e1 e2 e3 hb1 h1 h2
  have HG1 := Lib.hid (show RG w (w1.alloc (.cells #[] 3)) p r X v1 v2 (.slice (some ⟨w1.heap.size, 0, none⟩) 0 0) h q [] from
    ⟨HS1.out.alloc _, HR1.out.alloc _, ⟨hp0, hr0, hpr⟩, .inl HH.out, .inl HQ.out, OwnI.empty w1 w.heap.size hz1, HB1.out.alloc hz1 _⟩)
  clear hp0 hr0 hpr
  go_wp2
  generalize w1.alloc (.cells #[] 3) = w3 at HG1 ⊢
  go_loopw [4, 5] (fun ov iv wr => ∃ hs pre rest outs v1 v2, iv = .int .i64 pre.length ∧ RG w wr p r X v1 v2 ov hs (pre ++ rest) outs ∧ Hid (grantGo hs pre rest outs = grantGo h [] q []) ∧ hs.length + (pre ++ rest).length = h.length + q.length ∧ outs.length + rest.length ≤ q.length) (fun _ iv wr => (match wr.cell? ⟨p, 1, none⟩ with | some (.slice _ n _) => n | _ => 0) - (intOf iv).toNat)
  case atStart => exact ⟨h, [], q, [], v1, v2, rfl, HG1.out, rfl, rfl, by simp⟩
  case round =>
    obtain ⟨hs, pre, rest, outs, v1, v2, rfl, hg, hgo, hl, hol⟩ := hrel
    have HG := Lib.hid hg
    have HNN := HN.out
    obtain ⟨A2, n2, c2, rfl, hs2, hn2, hc2⟩ := hg.queue.open_ hg.low
    obtain ⟨A1, n1, c1, rfl, hs1, hn1, hc1⟩ := hg.held.open_ hg.low
    have hc0 := hg.box.cell 0
    have hc1' := hg.box.cell 1
    simp at hc0 hc1'
    have HC0 := Lib.hid hc0
    have HC1 := Lib.hid hc1'
    have hl1 := hs1.len
    have hl2 := hs2.len
    have HSH := Lib.hid hs1
    have HSQ := Lib.hid hs2
    have HN1 := Lib.hid hn1
    have HN2 := Lib.hid hn2
    clear hg hs1 hs2 hn1 hn2
    obtain ⟨k, hk⟩ : ∃ k, pre.length = k := ⟨_, rfl⟩
    have HK := Lib.hid hk
    rw [hk]
    cases rest with
    | nil =>
      have hkn : k = n2 := by simp at hl2; omega
      have HGO := Lib.hid (show grant ⟨h, q⟩ = (⟨hs, pre⟩, outs) from by have := hgo.out; rw [grantGo] at this; exact this.symm)
      have HGE := HG.out
      rw [List.append_nil] at HGE
      have HGF := Lib.hid HGE
      clear hk HGE hgo HC1
      subst hkn
      obtain ⟨wo, hwo⟩ : ∃ wo : World, wo = wr := ⟨_, rfl⟩
      have hcr0 := HGF.out.res.cell 0
      have hcr1 := HGF.out.res.cell 1
      simp at hcr0 hcr1
      have hfr0 := HGF.out.res.frozen 0
      have hfr1 := HGF.out.res.frozen 1
      have hrl := HGF.out.res.lt
      clear hwo
      go_wp2_with (refine wpList_load_cells rfl tS (.tmp 1) rfl ⟨p, 0, none⟩ rfl _ _ HGF.out.box.add Tryz.underlying53 rfl hlenS ?_)
      have HH9 := Lib.hid (((HGF.out.held.setCell HGF.out.res 0 (.slice A1 n1 c1)).setCell (HGF.out.res.put 0 _) 1 (.slice A2 k c2)).close ((HGF.out.low.setCell HGF.out.pb.2.1 _).setCell HGF.out.pb.2.1 _) HXX.out)
      have HQ9 := Lib.hid (((HGF.out.queue.setCell HGF.out.res 0 (.slice A1 n1 c1)).setCell (HGF.out.res.put 0 _) 1 (.slice A2 k c2)).close ((HGF.out.low.setCell HGF.out.pb.2.1 _).setCell HGF.out.pb.2.1 _) HXX.out)
      have HO9 := Lib.hid ((HGF.out.out.setCell (p := ⟨r, 0, none⟩) (fun e => ownI_ne HGF.out.out HGF.out.res (by decide) e.symm) (.slice A1 n1 c1)).setCell (p := ⟨r, 1, none⟩) (fun e => ownI_ne HGF.out.out HGF.out.res (by decide) e.symm) (.slice A2 k c2))
      rw [HGO.out]
      refine bodyPost_ret (v := .tuple #[.agg #[.slice A1 n1 c1, .slice A2 k c2], _]) (by simp [results, Tryz.results59, go_sem, hcr0, hcr1]) rfl ⟨_, _, _, rfl, HH9.out, HQ9.out, HO9.out, (HGF.out.low.setCell HGF.out.pb.2.1 _).setCell HGF.out.pb.2.1 _⟩
    | cons l rest =>
      have hkn : k < n2 := by simp at hl2; omega
      obtain ⟨b, off, l', rfl, hl', -⟩ := HSQ.out.at_ hkn
      obtain rfl : l' = l := by
        have : (pre ++ l :: rest)[k]? = some l := by rw [← HK.out]; simp
        rw [this] at hl'
        exact (Option.some.inj hl').symm
      have HR := Lib.hid (HSQ.out.row hl')
      have HTK := Lib.hid (show (pre ++ l' :: rest).take k = pre from by rw [← HK.out]; simp)
      have HDK := Lib.hid (show (pre ++ l' :: rest).drop (k + 1) = rest from by rw [← HK.out]; simp)
      clear hk hl'
      go_upto_region 5 with (refine wpList_load_cells rfl 30 (.tmp 16) rfl ⟨b, off + k * 6, none⟩ rfl _ _ HR.out Tryz.underlying30 rfl hlenL ?_)
      obtain ⟨w4, g4, e1, e2, hb4, h4⟩ := boxes1 wr 30 (la l')
      unfold la at e1
      rw [e1, e2]
      have HG4 := Lib.hid (HG.out.below hb4)
      have HSH4 := Lib.hid (HSH.out.below hb4)
      have HSQ4 := Lib.hid (HSQ.out.below hb4)
      have HL4 := Lib.hid h4
      clear e1 e2 hb4 h4
      have hk1 : k ≤ 90000 := by omega
      by_cases hnil : blks hs pre l' = []
      · have HNB := Lib.hid hnil
        clear hnil
        go_upto_region 7 with (first | (refine wpList_load_cells rfl tS (.tmp 1) rfl ⟨p, 0, none⟩ rfl _ _ HG4.out.box.add Tryz.underlying53 rfl hlenS ?_) | (refine wpList_load_cells rfl 30 (.tmp 6) rfl ⟨g4, 0, none⟩ rfl _ _ HL4.out.add Tryz.underlying30 rfl hlenL ?_) | (go_at_call 93; refine (refBlocks l' A1 _ n1 c1 n2 c2 k hs (pre ++ l' :: rest) _ HSH4.out HSQ4.out (by omega) (by omega) (by omega)).mono ?_; rintro e w5 ⟨v5, rfl, ho5, hb5⟩; rw [HTK.out] at ho5; have HO5 := Lib.hid ho5; have HG5 := Lib.hid (HG4.out.below hb5); have HSQ5 := Lib.hid (HSQ4.out.below hb5); have HSH5 := Lib.hid (HSH4.out.below hb5); have HL5 := Lib.hid (HL4.out.below hb5); obtain ⟨A5, c5, hv5, -, -⟩ := ho5.cells; rw [HNB.out] at hv5; simp only [List.length_nil] at hv5; subst hv5; clear ho5 hb5))
        have HSQ6 := Lib.hid HSQ5.out
        have HLQ := Lib.hid hl2
        have HGOQ := Lib.hid (show grantGo (hs ++ [l']) pre rest (outs ++ [l'.unit]) = grantGo h [] q [] from by rw [← grantGo_give HNB.out]; exact hgo.out)
        have HQD := Lib.hid (show (pre ++ l' :: rest).take k ++ (pre ++ l' :: rest).drop (k + 1) = pre ++ rest from by rw [HTK.out, HDK.out])
        have HLE := Lib.hid hl
        have HKN := Lib.hid hkn
        have hn290 : n2 ≤ 90000 := by omega
        have hn190 : n1 ≤ 90000 := by omega
        have HWR := Lib.hid (IntWalk.i64_in ((k : Int) + 1) (by omega))
        have HOL := Lib.hid hol
        clear hl2 hgo hl hol HG HG4 HSQ HSQ4 HSH HSH4 HTK HDK
        generalize pre ++ l' :: rest = qs at HLQ HG5 HSQ5 HSQ6 HQD HLE
        generalize (some ⟨b, off, none⟩ : Option Addr) = A2 at HSQ5 HSQ6 HG5 HN2
        have HC1 := Lib.hid (show w5.cell? ⟨p, 1, none⟩ = some (.slice A2 n2 c2) from by have := HG5.out.box.cell 1; simpa using this)
        have HP := Lib.hid (show CellsAt w5 A2 k 6 (lcs (qs.take k)) from HSQ6.out.take (by omega))
        have HDR := Lib.hid (show CellsAt w5 (if c2 = k + 1 then A2 else A2.map (·.add ((k + 1) * 6))) (n2 - (k + 1)) 6 (lcs (qs.drop (k + 1))) from by
          have := CellsAt.cut (k := k + 1) HSQ6.out (by omega) hc2
          rw [lcs_drop] at this
          exact this)
        have HND := Lib.hid (show (if c2 = k + 1 then A2 else A2.map (·.add ((k + 1) * 6))) = none → n2 - (k + 1) = 0 from by
          intro e
          have h0 : A2 = none := by
            split at e
            · exact e
            · simpa using e
          have := HN2.out h0
          omega)
        refine wp_region_kill 8 13 (by kernel_rfl) (by kernel_rfl) (fun i => match i with | 0 => some 11 | 5 => some 11 | _ => none) (RK w5.heap.size 11) (fun w1 => Below w5.heap.size w5 w1)
          (fun i v w1 => match i with
            | 0 => EmptyAt w1 w5.heap.size 30 v
            | 1 => v = .pointer (some ⟨p, 1, none⟩)
            | 2 => v = .slice A2 n2 c2
            | 3 => v = .int .i64 k
            | 4 => v = .slice A2 k c2
            | 5 => RowAt w1 w5.heap.size 30 6 k (lcs (qs.take k)) v
            | 6 => v = .pointer (some ⟨p, 1, none⟩)
            | 7 => v = .slice A2 n2 c2
            | 8 => v = .int .i64 k
            | 9 => v = .int .i64 ((k + 1 : Nat) : Int)
            | 10 => v = .slice (if c2 = k + 1 then A2 else A2.map (·.add ((k + 1) * 6))) (n2 - (k + 1)) (c2 - (k + 1))
            | 11 => RowAt w1 w5.heap.size 30 6 (k + (n2 - (k + 1))) (lcs (qs.take k) ++ lcs (qs.drop (k + 1))) v
            | 12 => v = .pointer (some ⟨p, 1, none⟩)
            | _ => True) (fun _ _ _ h1 h2 => RK.keep h1 h2) ?_ ((Below.refl _ _).drew) ?_ ?_
        · intro kk ii vv w1 w2 hik hk hf hR
          match ii, hik, hk, hf with
          | 0, _, hk, hf => exact EmptyAt.below hf (RK.at_ hR (fun e => hk (by subst e; rfl)))
          | 1, _, _, hf => exact hf
          | 2, _, _, hf => exact hf
          | 3, _, _, hf => exact hf
          | 4, _, _, hf => exact hf
          | 5, _, hk, hf => exact RowAt.below hf (RK.at_ hR (fun e => hk (by subst e; rfl)))
          | 6, _, _, hf => exact hf
          | 7, _, _, hf => exact hf
          | 8, _, _, hf => exact hf
          | 9, _, _, hf => exact hf
          | 10, _, _, hf => exact hf
          | 11, hik, _, hf => exact RowAt.below hf (RK.at_ hR (Ne.symm hik))
          | 12, _, _, hf => exact hf
          | n + 13, _, _, _ => trivial
        · refine allOps_cons ?_ (allOps_cons ?_ (allOps_cons ?_ (allOps_cons ?_ (allOps_cons ?_ (allOps_cons ?_ (allOps_cons ?_ (allOps_cons ?_ (allOps_cons ?_ (allOps_cons ?_ (allOps_cons ?_ (allOps_cons ?_ (allOps_cons ?_ allOps_nil))))))))))))
          · intro u w1 hC hd K hK
            simp only [List.take_succ_cons, List.take_zero, putAll, Act.put, List.setIfInBounds_toArray, List.set_cons_succ, List.set_cons_zero, Nat.zero_add, Nat.reduceAdd] at hK ⊢
            go_simp
            exact hK _ _ (RK.below (below_alloc (Below.refl _ _) _) (by decide)) (EmptyAt.new _ _ hC.size)
          · intro u w1 hC hd K hK
            simp only [List.take_succ_cons, List.take_zero, putAll, Act.put, List.setIfInBounds_toArray, List.set_cons_succ, List.set_cons_zero, Nat.zero_add, Nat.reduceAdd] at hK ⊢
            go_simp
            exact hK _ _ (RK.same (by decide)) rfl
          · intro u w1 hC hd K hK
            have h1 : u 1 = .pointer (some ⟨p, 1, none⟩) := hd 1 rfl rfl
            have hc1 : w1.cell? ⟨p, 1, none⟩ = some (.slice A2 n2 c2) := by rw [hC.cell (p := ⟨p, 1, none⟩) (World.block_lt_of_cell? w5 _ HC1.out)]; exact HC1.out
            simp only [List.take_succ_cons, List.take_zero, putAll, Act.put, List.setIfInBounds_toArray, List.set_cons_succ, List.set_cons_zero, Nat.zero_add, Nat.reduceAdd, h1] at hK ⊢
            go_simp
            exact hK _ _ (RK.same (by decide)) rfl
          · intro u w1 hC hd K hK
            simp only [List.take_succ_cons, List.take_zero, putAll, Act.put, List.setIfInBounds_toArray, List.set_cons_succ, List.set_cons_zero, Nat.zero_add, Nat.reduceAdd] at hK ⊢
            go_simp
            exact hK _ _ (RK.same (by decide)) rfl
          · intro u w1 hC hd K hK
            have h2 : u 2 = .slice A2 n2 c2 := hd 2 rfl rfl
            have h3 : u 3 = .int .i64 k := hd 3 rfl rfl
            simp only [List.take_succ_cons, List.take_zero, putAll, Act.put, List.setIfInBounds_toArray, List.set_cons_succ, List.set_cons_zero, Nat.zero_add, Nat.reduceAdd, h2, h3] at hK ⊢
            rw [if_pos (show Region.wanted _ _ = true from rfl)]
            exact wp_slice_to 41 (.tmp 28) (.tmp 29) rfl Tryz.underlying41 6 (fun _ => by kernel_rfl) A2 n2 c2 k rfl rfl (by omega) (hK _ _ (RK.same (by decide)) rfl)
          · intro u w1 hC hd K hK
            have h4 : u 4 = .slice A2 k c2 := hd 4 rfl rfl
            obtain ⟨g0, hg0, hg1, hg2⟩ := hd 0 rfl rfl
            simp only [List.take_succ_cons, List.take_zero, putAll, Act.put, List.setIfInBounds_toArray, List.set_cons_succ, List.set_cons_zero, Nat.zero_add, Nat.reduceAdd, h4] at hK ⊢
            rw [if_pos (show Region.wanted _ _ = true from rfl)]
            refine wp_append_empty w1 (.tmp 26) (.tmp 30) 41 rfl 30 i0 _ 6 64 Tryz.underlying41 HI.out HZ0.out HZ1.out HZ2.out rfl (by omega) g0 w5.heap.size hg0 hg1 hg2 A2 k c2 _ rfl (HP.out.below hC) (lcs_one _) (by unfold maxLen; omega) (by omega) ?_
            intro v' w2 hown2 hb2
            exact hK v' w2 (RK.below hb2 (by decide)) hown2
          · intro u w1 hC hd K hK
            simp only [List.take_succ_cons, List.take_zero, putAll, Act.put, List.setIfInBounds_toArray, List.set_cons_succ, List.set_cons_zero, Nat.zero_add, Nat.reduceAdd] at hK ⊢
            go_simp
            exact hK _ _ (RK.same (by decide)) rfl
          · intro u w1 hC hd K hK
            have h6 : u 6 = .pointer (some ⟨p, 1, none⟩) := hd 6 rfl rfl
            have hc1 : w1.cell? ⟨p, 1, none⟩ = some (.slice A2 n2 c2) := by rw [hC.cell (p := ⟨p, 1, none⟩) (World.block_lt_of_cell? w5 _ HC1.out)]; exact HC1.out
            simp only [List.take_succ_cons, List.take_zero, putAll, Act.put, List.setIfInBounds_toArray, List.set_cons_succ, List.set_cons_zero, Nat.zero_add, Nat.reduceAdd, h6] at hK ⊢
            go_simp
            exact hK _ _ (RK.same (by decide)) rfl
          · intro u w1 hC hd K hK
            simp only [List.take_succ_cons, List.take_zero, putAll, Act.put, List.setIfInBounds_toArray, List.set_cons_succ, List.set_cons_zero, Nat.zero_add, Nat.reduceAdd] at hK ⊢
            go_simp
            exact hK _ _ (RK.same (by decide)) rfl
          · intro u w1 hC hd K hK
            have h8 : u 8 = .int .i64 k := hd 8 rfl rfl
            simp only [List.take_succ_cons, List.take_zero, putAll, Act.put, List.setIfInBounds_toArray, List.set_cons_succ, List.set_cons_zero, Nat.zero_add, Nat.reduceAdd, h8] at hK ⊢
            go_simp
            exact hK _ _ (RK.same (by decide)) (by first | (rw [HWR.out]; simp; done) | (simp; done) | go_num)
          · intro u w1 hC hd K hK
            have h7 : u 7 = .slice A2 n2 c2 := hd 7 rfl rfl
            have h9 : u 9 = .int .i64 ((k + 1 : Nat) : Int) := hd 9 rfl rfl
            simp only [List.take_succ_cons, List.take_zero, putAll, Act.put, List.setIfInBounds_toArray, List.set_cons_succ, List.set_cons_zero, Nat.zero_add, Nat.reduceAdd, h7, h9] at hK ⊢
            rw [if_pos (show Region.wanted _ _ = true from rfl)]
            exact wp_slice_from 41 (.tmp 33) (.tmp 35) rfl Tryz.underlying41 6 (fun _ => by kernel_rfl) A2 n2 c2 (k + 1) rfl rfl (by omega) (hK _ _ (RK.same (by decide)) rfl)
          · intro u w1 hC hd K hK
            have h10 : u 10 = .slice (if c2 = k + 1 then A2 else A2.map (·.add ((k + 1) * 6))) (n2 - (k + 1)) (c2 - (k + 1)) := hd 10 rfl rfl
            have h4 : RowAt w1 w5.heap.size 30 6 k (lcs (qs.take k)) (u 5) := hd 5 rfl rfl
            simp only [List.take_succ_cons, List.take_zero, putAll, Act.put, List.setIfInBounds_toArray, List.set_cons_succ, List.set_cons_zero, Nat.zero_add, Nat.reduceAdd, h10] at hK ⊢
            rw [if_pos (show Region.wanted _ _ = true from rfl)]
            refine wp_append_own (.tmp 31) (.tmp 36) 41 rfl w5.heap.size 30 i0 _ 6 64 Tryz.underlying41 HI.out HZ0.out HZ1.out HZ2.out rfl (by omega) (u 5) k _ rfl h4 _ (n2 - (k + 1)) (c2 - (k + 1)) _ rfl HND.out (HDR.out.below hC) (lcs_one _) (by unfold maxLen; omega) (by omega) hC.size ?_
            intro v' w2 hr hg
            exact hK v' w2 (RK.grown hg (row_base h4)) hr
          · intro u w1 hC hd K hK
            simp only [List.take_succ_cons, List.take_zero, putAll, Act.put, List.setIfInBounds_toArray, List.set_cons_succ, List.set_cons_zero, Nat.zero_add, Nat.reduceAdd] at hK ⊢
            go_simp
            exact hK _ _ (RK.same (by decide)) rfl
        · intro u wt hC hf
          have h11 : RowAt wt w5.heap.size 30 6 (k + (n2 - (k + 1))) (lcs (qs.take k) ++ lcs (qs.drop (k + 1))) (u 11) := hf 11 (by omega) rfl
          have h12 : u 12 = .pointer (some ⟨p, 1, none⟩) := hf 12 (by omega) rfl
          have HC := Lib.hid hC
          have hlq : (qs.take k ++ qs.drop (k + 1)).length = k + (n2 - (k + 1)) := by
            rw [List.length_append, List.length_take, List.length_drop, HLQ.out]
            omega
          have HO7 := Lib.hid (OwnL.of_row (C := w.heap.size) (ls := qs.take k ++ qs.drop (k + 1)) (by rw [lcs_append]; exact h11) hlq HG5.out.low.size)
          have HLQ7 := Lib.hid hlq
          have HG7 := Lib.hid (HG5.out.below HC.out)
          have HL7 := Lib.hid (HL5.out.below HC.out)
          obtain ⟨A7, c7, hv7, -, -⟩ := HO7.out.cells
          rw [HLQ7.out] at hv7
          simp only [List.take_succ_cons, List.take_zero, List.drop_succ_cons, List.drop_zero, putAll, Act.put, List.setIfInBounds_toArray, List.set_cons_succ, List.set_cons_zero, Nat.zero_add, Nat.reduceAdd, h12, hv7]
          have hfr := HG7.out.box.frozen 1
          have hcr := HG7.out.box.cell 1
          have hpl := HG7.out.box.lt
          simp at hcr
          have HG8 := Lib.hid (HG7.out.putQ HO7.out)
          have HL8 := Lib.hid (HL7.out.far (p := ⟨p, 1, none⟩) (Blk.ne HL7.out HG7.out.box (by decide)) (u 11))
          rw [hv7] at HG8 HL8
          clear hC hf h11 h12 hlq hv7 HO7
          go_upto_region 8 with (fail)
          generalize wt.setCell ⟨p, 1, none⟩ _ = w8 at HG8 HL8 ⊢
          clear hfr hcr hpl HG7 HL7 HC
          obtain ⟨A9, n9, c9, e9, hs9, -⟩ := HG8.out.held.open_ HG8.out.low
          cases e9
          have HSL := Lib.hid hs9
          have HBL := Lib.hid HL8.out
          have HC0 := Lib.hid (show w8.cell? ⟨p, 0, none⟩ = some (.slice A1 n1 c1) from by have := HG8.out.box.cell 0; simpa using this)
          clear hs9
          refine wp_region_kill 6 8 (by kernel_rfl) (by kernel_rfl) (fun i => match i with | 0 => some 6 | 3 => some 6 | 5 => some 6 | _ => none) (RK w8.heap.size 6) (fun w1 => Below w8.heap.size w8 w1)
            (fun i v w1 => match i with
              | 0 => EmptyAt w1 w8.heap.size 30 v
              | 1 => v = .pointer (some ⟨p, 0, none⟩)
              | 2 => v = .slice A1 n1 c1
              | 3 => RowAt w1 w8.heap.size 30 6 n1 (lcs hs) v
              | 4 => v = .agg (la l')
              | 5 => OneAt w1 30 (la l') v
              | 6 => RowAt w1 w8.heap.size 30 6 (n1 + 1) (lcs hs ++ lc l') v
              | 7 => v = .pointer (some ⟨p, 0, none⟩)
              | _ => True) (fun _ _ _ h1 h2 => RK.keep h1 h2) ?_ ((Below.refl _ _).drew) ?_ ?_
          · intro kk ii vv w1 w2 hik hk hf hR
            match ii, hik, hk, hf with
            | 0, _, hk, hf => exact EmptyAt.below hf (RK.at_ hR (fun e => hk (by subst e; rfl)))
            | 1, _, _, hf => exact hf
            | 2, _, _, hf => exact hf
            | 3, _, hk, hf => exact RowAt.below hf (RK.at_ hR (fun e => hk (by subst e; rfl)))
            | 4, _, _, hf => exact hf
            | 5, _, hk, hf => exact OneAt.below hf (RK.at_ hR (fun e => hk (by subst e; rfl)))
            | 6, hik, _, hf => exact RowAt.below hf (RK.at_ hR (Ne.symm hik))
            | 7, _, _, hf => exact hf
            | n + 8, _, _, _ => trivial
          · refine allOps_cons ?_ (allOps_cons ?_ (allOps_cons ?_ (allOps_cons ?_ (allOps_cons ?_ (allOps_cons ?_ (allOps_cons ?_ (allOps_cons ?_ allOps_nil)))))))
            · intro u w1 hC hd K hK
              simp only [List.take_succ_cons, List.take_zero, putAll, Act.put, List.setIfInBounds_toArray, List.set_cons_succ, List.set_cons_zero, Nat.zero_add, Nat.reduceAdd] at hK ⊢
              go_simp
              exact hK _ _ (RK.below (below_alloc (Below.refl _ _) _) (by decide)) (EmptyAt.new _ _ hC.size)
            · intro u w1 hC hd K hK
              simp only [List.take_succ_cons, List.take_zero, putAll, Act.put, List.setIfInBounds_toArray, List.set_cons_succ, List.set_cons_zero, Nat.zero_add, Nat.reduceAdd] at hK ⊢
              go_simp
              exact hK _ _ (RK.same (by decide)) rfl
            · intro u w1 hC hd K hK
              have h1 : u 1 = .pointer (some ⟨p, 0, none⟩) := hd 1 rfl rfl
              have hc1 : w1.cell? ⟨p, 0, none⟩ = some (.slice A1 n1 c1) := by rw [hC.cell (p := ⟨p, 0, none⟩) (World.block_lt_of_cell? w8 _ HC0.out)]; exact HC0.out
              simp only [List.take_succ_cons, List.take_zero, putAll, Act.put, List.setIfInBounds_toArray, List.set_cons_succ, List.set_cons_zero, Nat.zero_add, Nat.reduceAdd, h1] at hK ⊢
              go_simp
              exact hK _ _ (RK.same (by decide)) rfl
            · intro u w1 hC hd K hK
              have h2 : u 2 = .slice A1 n1 c1 := hd 2 rfl rfl
              obtain ⟨g0, hg0, hg1, hg2⟩ := hd 0 rfl rfl
              simp only [List.take_succ_cons, List.take_zero, putAll, Act.put, List.setIfInBounds_toArray, List.set_cons_succ, List.set_cons_zero, Nat.zero_add, Nat.reduceAdd, h2] at hK ⊢
              rw [if_pos (show Region.wanted _ _ = true from rfl)]
              refine wp_append_empty w1 (.tmp 39) (.tmp 41) 41 rfl 30 i0 _ 6 64 Tryz.underlying41 HI.out HZ0.out HZ1.out HZ2.out rfl (by omega) g0 w8.heap.size hg0 hg1 hg2 A1 n1 c1 _ rfl (HSL.out.below hC) (lcs_one _) (by unfold maxLen; omega) (by omega) ?_
              intro v' w2 hown2 hb2
              exact hK v' w2 (RK.below hb2 (by decide)) hown2
            · intro u w1 hC hd K hK
              simp only [List.take_succ_cons, List.take_zero, putAll, Act.put, List.setIfInBounds_toArray, List.set_cons_succ, List.set_cons_zero, Nat.zero_add, Nat.reduceAdd] at hK ⊢
              rw [if_pos (show Region.wanted _ _ = true from rfl)]
              exact wp_load_cells 30 (.tmp 6) rfl ⟨g4, 0, none⟩ rfl (la l') _ ((HBL.out.below hC).add) Tryz.underlying30 rfl hlenL (hK _ _ (RK.same (by decide)) rfl)
            · intro u w1 hC hd K hK
              have h4 : u 4 = .agg (la l') := hd 4 rfl rfl
              simp only [List.take_succ_cons, List.take_zero, putAll, Act.put, List.setIfInBounds_toArray, List.set_cons_succ, List.set_cons_zero, Nat.zero_add, Nat.reduceAdd, h4] at hK ⊢
              unfold la at hK ⊢
              go_simp
              exact hK _ _ (RK.below (below_alloc (Below.refl _ _) _) (by decide)) (OneAt.new _ _ _)
            · intro u w1 hC hd K hK
              have h4 : RowAt w1 w8.heap.size 30 6 n1 (lcs hs) (u 3) := hd 3 rfl rfl
              obtain ⟨g1, hg0, hg1⟩ := hd 5 rfl rfl
              simp only [List.take_succ_cons, List.take_zero, putAll, Act.put, List.setIfInBounds_toArray, List.set_cons_succ, List.set_cons_zero, Nat.zero_add, Nat.reduceAdd] at hK ⊢
              rw [if_pos (show Region.wanted _ _ = true from rfl)]
              refine wp_append_own (.tmp 42) (.tmp 44) 41 rfl w8.heap.size 30 i0 _ 6 64 Tryz.underlying41 HI.out HZ0.out HZ1.out HZ2.out rfl (by omega) (u 3) n1 _ rfl h4 (some ⟨g1, 0, none⟩) 1 1 (lc l') hg0 (fun e => by cases e) (one_cells hg1) (lc_one _) (by unfold maxLen; omega) (by omega) hC.size ?_
              intro v' w2 hr hg
              exact hK v' w2 (RK.grown hg (row_base h4)) hr
            · intro u w1 hC hd K hK
              simp only [List.take_succ_cons, List.take_zero, putAll, Act.put, List.setIfInBounds_toArray, List.set_cons_succ, List.set_cons_zero, Nat.zero_add, Nat.reduceAdd] at hK ⊢
              go_simp
              exact hK _ _ (RK.same (by decide)) rfl
          · intro u wt hC hf
            have h6 : RowAt wt w8.heap.size 30 6 (n1 + 1) (lcs hs ++ lc l') (u 6) := hf 6 (by omega) rfl
            have h7 : u 7 = .pointer (some ⟨p, 0, none⟩) := hf 7 (by omega) rfl
            have HC := Lib.hid hC
            have HO9 := Lib.hid (OwnL.of_row (C := w.heap.size) (ls := hs ++ [l']) (by rw [lcs_append]; simpa [lcs] using h6) (by simp [hl1]) HG8.out.low.size)
            have HG9 := Lib.hid (HG8.out.below HC.out)
            have HL9 := Lib.hid (HL8.out.below HC.out)
            obtain ⟨A10, c10, hv10, -, -⟩ := HO9.out.cells
            rw [show (hs ++ [l']).length = n1 + 1 from by simp [hl1]] at hv10
            simp only [List.take_succ_cons, List.take_zero, List.drop_succ_cons, List.drop_zero, putAll, Act.put, List.setIfInBounds_toArray, List.set_cons_succ, List.set_cons_zero, Nat.zero_add, Nat.reduceAdd, h7, hv10]
            have hfr := HG9.out.box.frozen 0
            have hcr := HG9.out.box.cell 0
            have hpl := HG9.out.box.lt
            simp at hcr
            have HG10 := Lib.hid (HG9.out.putH HO9.out)
            have HL10 := Lib.hid (HL9.out.far (p := ⟨p, 0, none⟩) (Blk.ne HL9.out HG9.out.box (by decide)) (u 6))
            rw [hv10] at HG10 HL10
            clear hC hf h6 h7 hv10 HO9
            go_upto_region 9 with (fail)
            generalize wt.setCell ⟨p, 0, none⟩ _ = w10 at HG10 HL10 ⊢
            clear hfr hcr hpl HG9 HL9 HC
            have hz10 := HG10.out.low.size
            obtain ⟨a0, -, -, -, -, -⟩ := lcells HL10.out
            obtain ⟨A11, c11, hv11, -, -⟩ := HG10.out.out.cells
            have HVO := Lib.hid hv11
            have hol1 : outs.length ≤ 90000 := by
              have := HOL.out
              simp at this
              omega
            go_wp2_with (at_builtin; refine wpList_append_int rfl (.tmp 47) (.tmp 50) _ rfl w.heap.size i1 _ Tryz.underlying34 HI1.out HY0.out HY1.out HY2.out rfl _ outs rfl (HG10.out.out.alloc _) l'.unit w10.heap.size 1 rfl (World.cell?_alloc_mark w10 _ 3 (0, 0) 0) (by omega) (by simp; omega) ?_; intro v12 w12 hown12 hg12 hat12; have HG12 := Lib.hid (HG10.out.push hg12 hown12); clear hown12 hg12 hat12)
            go_roundw
            case rel =>
              have e1 := congrArg List.length HQD.out
              rw [HLQ7.out] at e1
              have e2 := HLE.out
              rw [HLQ.out] at e2
              exact ⟨hs ++ [l'], pre, rest, outs ++ [l'.unit], _, _, by rw [HK.out], by rw [← HQD.out]; exact HG12.out, HGOQ.out, by rw [List.length_append, ← e1]; simp; omega, by have := HOL.out; simp at this ⊢; omega⟩
            case measure =>
              have hc12 := HG12.out.box.cell 1
              simp at hc12
              simp only [hc12, hc1', intOf, Int.toNat_natCast]
              have hk9 := HKN.out
              clear hc12
              exact sub_less hk9
      · have hpos : 0 < ((blks hs pre l').length : Int) := by
          have := List.length_pos_iff.2 hnil
          omega
        have HNB := Lib.hid hnil
        clear hnil
        go_wp2_with (first | (refine wpList_load_cells rfl tS (.tmp 1) rfl ⟨p, 0, none⟩ rfl _ _ HG4.out.box.add Tryz.underlying53 rfl hlenS ?_) | (refine wpList_load_cells rfl 30 (.tmp 6) rfl ⟨g4, 0, none⟩ rfl _ _ HL4.out.add Tryz.underlying30 rfl hlenL ?_) | (go_at_call 93; refine (refBlocks l' A1 _ n1 c1 n2 c2 k hs (pre ++ l' :: rest) _ HSH4.out HSQ4.out (by omega) (by omega) (by omega)).mono ?_; rintro e w5 ⟨v5, rfl, ho5, hb5⟩; rw [HTK.out] at ho5; have HO5 := Lib.hid ho5; have HG5 := Lib.hid (HG4.out.below hb5); have HSQ5 := Lib.hid (HSQ4.out.below hb5); have HSH5 := Lib.hid (HSH4.out.below hb5); have HL5 := Lib.hid (HL4.out.below hb5); obtain ⟨A5, c5, hv5, -, -⟩ := ho5.cells;  subst hv5; clear ho5 hb5))
        go_roundw
        case rel => exact ⟨hs, pre ++ [l'], rest, outs, _, _, by simp [HK.out], by rw [List.append_assoc]; exact HG5.out, by rw [← grantGo_wait HNB.out]; exact hgo.out, by simp at hl ⊢; omega, by simp at hol ⊢; omega⟩
        case measure =>
          have hc5 := HG5.out.box.cell 1
          simp at hc5
          simp only [hc5, HC1.out, intOf]
          omega
end Go.Proofs.YtjklhiifjnmedaaGreat
namespace Go.Proofs.YtjklhiifjnmedaaGreat
open Go.RowKit P16 P46 Go.Sort
attribute [local go_sem] ByteArray.mk_append_mk ByteArray.extract_mk mk_index
attribute [local irreducible] wpQuiet

theorem CellsAt.setCell {w : World} {A : Option Addr} {n size : Nat} {xs : List Value} (hc : CellsAt w A n size xs) {p : Addr} (hf : ∀ b off, A = some ⟨b, off, none⟩ → b ≠ p.block) (u : Value) : CellsAt (w.setCell p u) A n size xs :=
  ⟨hc.1, fun j v hj => by
    obtain ⟨b, off, h1, h2⟩ := hc.2 j v hj
    refine ⟨b, off, h1, ?_⟩
    have e := Below.heap_setCell w p u b (hf b off h1)
    unfold World.cell? at h2 ⊢
    rw [e]
    exact h2⟩
section
variable {w w' : World} {X : Nat → Prop} {v : Value} {ls : List Lock}
theorem SL.setCell (h : SL w X v ls) {p : Addr} (hne : ∀ b, X b → b ≠ p.block) (u : Value) : SL (w.setCell p u) X v ls := by
  obtain ⟨A, n, c, rfl, h1, h2, h3, h4⟩ := h
  exact ⟨A, n, c, rfl, CellsAt.setCell h1 (fun b off e => hne b (h4 b off e).2) u, h2, h3, fun b off e => ⟨by simpa using (h4 b off e).1, (h4 b off e).2⟩⟩
end
/-- The result's cell is written at last. -/
theorem gres_end {w w5 : World} {X : Nat → Prop} {r B : Nat} {va vb vo : Value} {s : St} {outs : List Int} {cs : Array Value} (ha : SL w5 (fun b => X b ∧ b ≠ r) va s.h) (hb : SL w5 (fun b => X b ∧ b ≠ r) vb s.q) (ho : OwnI w5 B vo outs) (hB : w.heap.size ≤ B) (hr : Blk w5 r tS cs) (hr0 : w.heap.size ≤ r) (he : Below w.heap.size w w5) :
    GRes w X s outs (.returned (.tuple #[.agg #[va, vb], vo])) ((w5.setCell ⟨r, 0, none⟩ va).setCell ⟨r, 1, none⟩ vb) := by
  have hvo : vo.ownBlock ≠ some r := fun e => ownI_ne ho hr (by decide) e.symm
  refine ⟨va, vb, vo, rfl, ?_, ?_, ((ho.base hB).setCell (p := ⟨r, 0, none⟩) hvo _).setCell (p := ⟨r, 1, none⟩) hvo _, (he.setCell hr0 _).setCell hr0 _⟩
  · exact ((ha.setCell (p := ⟨r, 0, none⟩) (fun b hb => hb.2) va).setCell (p := ⟨r, 1, none⟩) (fun b hb => hb.2) vb).mono (fun b _ h => h.1)
  · exact ((hb.setCell (p := ⟨r, 0, none⟩) (fun b hb => hb.2) va).setCell (p := ⟨r, 1, none⟩) (fun b hb => hb.2) vb).mono (fun b _ h => h.1)
set_option maxRecDepth 100000 in
set_option maxHeartbeats 4000000 in
theorem refCancel (u : Int) (X : Nat → Prop) (v1 v2 : Value) (h q : List Lock) (w : World) (hh : SL w X v1 h) (hq : SL w X v2 q) (hX : ∀ b, w.heap.size ≤ b → X b) (hn : h.length + q.length ≤ 90000) :
    Calls Tryz.prog 22 #[.agg #[v1, v2], .int .i64 u] w (GRes w X (P46.cancel ⟨h, q⟩ u).1 (P46.cancel ⟨h, q⟩ u).2) := by
  have HH := Lib.hid hh
  have HXX := Lib.hid hX
  have HN := Lib.hid hn
  obtain ⟨A2, n2, c2, rfl, hq1, hq2, hq3, -⟩ := hq
  have HQ1 := Lib.hid hq1
  have hl2 := hq1.len
  clear hh hX hn hq1 hq2 hq3
  have hlenS : (Tryz.prog.info? tS).map (·.size) = some 2 := by kernel_rfl
  go_enter Tryz.func22, Tryz.ntmps22
  go_upto_region 1 with (fail)
  obtain ⟨w1, p, r, e1, e2, e3, hb1, h1, h2⟩ := boxes2 w tS #[v1, .slice A2 n2 c2] #[.slice none 0 0, .slice none 0 0]
  rw [e1, e3, e2]
  have hp0 : w.heap.size ≤ p := by omega
  have hr0 : w.heap.size ≤ r := by omega
  have hpr : r ≠ p := by omega
  have HB1 := Lib.hid hb1
  have HS1 := Lib.hid h1
  have HR1 := Lib.hid h2
  have hz1 := hb1.size
  have hp1 := h1.lt
  have hr1 := h2.lt
  clear e1 e2 e3 hb1 h1 h2
  have hl90 : n2 ≤ 90000 := by
    have := HN.out
    omega
  have hc1 := HS1.out.cell 1
  simp at hc1
  have HX2 := Lib.hid (show SL w (fun b => X b ∧ b ≠ p ∧ b ≠ r) v1 h from HH.out.mono (fun b hb hx => ⟨hx, by omega, by omega⟩))
  go_upto_region 2 with (go_at_call 58; refine (refWithout u A2 n2 c2 q _ (HQ1.out.below HB1.out) (by omega)).mono ?_; rintro e w3 ⟨v3, rfl, ho3, hb3⟩; have HO3 := Lib.hid ho3; have HB3 := Lib.hid hb3; have hc3 := (HS1.out.below hb3).cell 1; have hf3 := (HS1.out.below hb3).frozen 1; have hp3 := (HS1.out.below hb3).lt; obtain ⟨A3, c3, hv3, -, -⟩ := ho3.cells; subst hv3; simp at hc3; clear ho3 hb3)
  have HS4 := Lib.hid (show Blk (w3.setCell ⟨p, 1, none⟩ (.slice A3 (drop q u).length c3)) p tS #[v1, .slice A3 (drop q u).length c3] from by simpa using (HS1.out.below HB3.out).put 1 (.slice A3 (drop q u).length c3))
  have HR4 := Lib.hid ((HR1.out.below HB3.out).far (p := ⟨p, 1, none⟩) hpr (.slice A3 (drop q u).length c3))
  have HH4 := Lib.hid ((HX2.out.below (HB1.out.trans (HB3.out.mono hz1))).setCell (p := ⟨p, 1, none⟩) (fun b hb => hb.2.1) (.slice A3 (drop q u).length c3))
  have HQ4 := Lib.hid (show SL (w3.setCell ⟨p, 1, none⟩ (.slice A3 (drop q u).length c3)) (fun b => X b ∧ b ≠ r) (.slice A3 (drop q u).length c3) (drop q u) from
    SL.own (HO3.out.setCell (own_neR HO3.out (HS1.out.below HB3.out) (by decide)) _) (fun b hb => ⟨HXX.out b (by omega), by omega⟩))
  have HB4 := Lib.hid ((HB1.out.trans (HB3.out.mono hz1)).setCell (p := ⟨p, 1, none⟩) hp0 (.slice A3 (drop q u).length c3))
  have hld : (drop q u).length ≤ q.length := List.length_filter_le _ _
  clear hc3 hf3 hp3
  generalize w3.setCell ⟨p, 1, none⟩ (.slice A3 (drop q u).length c3) = w4 at HS4 HR4 HH4 HQ4 HB4 ⊢
  have hr4 := HR4.out.lt
  have hz4 := HB4.out.size
  go_wp2_with (first | (refine wpList_load_cells rfl tS (.tmp 2) rfl ⟨p, 0, none⟩ rfl _ _ HS4.out.add Tryz.underlying53 rfl hlenS ?_) | (go_at_call 59; refine (refGrant (fun b => X b ∧ b ≠ r) v1 _ h (drop q u) _ (HH4.out.mono (fun b _ hx => ⟨hx.1, hx.2.2⟩)) HQ4.out (fun b hb => ⟨HXX.out b (by omega), by omega⟩) (by have := HN.out; omega)).mono ?_; rintro e w5 ⟨va, vb, vo, rfl, ha5, hb5, ho5, hbe5⟩; have HA5 := Lib.hid ha5; have HB5 := Lib.hid hb5; have HO5 := Lib.hid ho5; have HE5 := Lib.hid hbe5; have hr5 := HR4.out.below hbe5; have HR5 := Lib.hid hr5; have hr50 := hr5.cell 0; have hr51 := hr5.cell 1; have hf50 := hr5.frozen 0; have hf51 := hr5.frozen 1; have hrl5 := hr5.lt; simp at hr50 hr51; obtain ⟨Aa, na, ca, hva, -⟩ := id ha5; obtain ⟨Ab, nb, cb, hvb, -⟩ := id hb5; subst hva; subst hvb; clear ha5 hb5 ho5 hbe5 hr5))
  exact bodyPost_ret (v := .tuple #[.agg #[.slice Aa na ca, .slice Ab nb cb], vo]) (by simp [results, Tryz.results22, go_sem, hr50, hr51]) rfl (gres_end HA5.out HB5.out HO5.out hz4 HR5.out hr0 (HB4.out.trans (HE5.out.mono hz4)))
/-- Both fields are written. -/
structure Both (w w4 : World) (X : Nat → Prop) (p r : Nat) (va vb : Value) (hs qs : List Lock) : Prop where
  box : Blk w4 p tS #[va, vb]
  res : Blk w4 r tS #[.slice none 0 0, .slice none 0 0]
  held : SL w4 (fun b => X b ∧ b ≠ r) va hs
  queue : SL w4 (fun b => X b ∧ b ≠ r) vb qs
  low : Below w.heap.size w w4
section
variable {w wB : World} {X : Nat → Prop} {p r B : Nat} {va vb x y : Value} {hs qs : List Lock}
theorem both01 (h1 : Blk wB p tS #[x, y]) (h2 : Blk wB r tS #[.slice none 0 0, .slice none 0 0]) (ha : OwnL wB B tL va hs) (hb : OwnL wB B tL vb qs) (hp0 : w.heap.size ≤ p) (hpr : r ≠ p) (hB : w.heap.size ≤ B) (hrB : r < B) (hX : ∀ b, w.heap.size ≤ b → X b) (he : Below w.heap.size w wB) :
    ∃ w4, (wB.setCell ⟨p, 0, none⟩ va).setCell ⟨p, 1, none⟩ vb = w4 ∧ Both w w4 X p r va vb hs qs := by
  have hX2 : ∀ b, B ≤ b → X b ∧ b ≠ r := fun b hb => ⟨hX b (by omega), by omega⟩
  exact ⟨_, rfl, by simpa using (h1.put 0 va).put 1 vb, (h2.far (p := ⟨p, 0, none⟩) hpr va).far (p := ⟨p, 1, none⟩) hpr vb,
    SL.own ((ha.setCell (p := ⟨p, 0, none⟩) (own_neR ha h1 (by decide)) _).setCell (p := ⟨p, 1, none⟩) (own_neR ha h1 (by decide)) _) hX2,
    SL.own ((hb.setCell (p := ⟨p, 0, none⟩) (own_neR hb h1 (by decide)) _).setCell (p := ⟨p, 1, none⟩) (own_neR hb h1 (by decide)) _) hX2, (he.setCell hp0 _).setCell hp0 _⟩
theorem both10 (h1 : Blk wB p tS #[x, y]) (h2 : Blk wB r tS #[.slice none 0 0, .slice none 0 0]) (ha : OwnL wB B tL va hs) (hb : OwnL wB B tL vb qs) (hp0 : w.heap.size ≤ p) (hpr : r ≠ p) (hB : w.heap.size ≤ B) (hrB : r < B) (hX : ∀ b, w.heap.size ≤ b → X b) (he : Below w.heap.size w wB) :
    ∃ w4, (wB.setCell ⟨p, 1, none⟩ vb).setCell ⟨p, 0, none⟩ va = w4 ∧ Both w w4 X p r va vb hs qs := by
  have hX2 : ∀ b, B ≤ b → X b ∧ b ≠ r := fun b hb => ⟨hX b (by omega), by omega⟩
  exact ⟨_, rfl, by simpa using (h1.put 1 vb).put 0 va, (h2.far (p := ⟨p, 1, none⟩) hpr vb).far (p := ⟨p, 0, none⟩) hpr va,
    SL.own ((ha.setCell (p := ⟨p, 1, none⟩) (own_neR ha h1 (by decide)) _).setCell (p := ⟨p, 0, none⟩) (own_neR ha h1 (by decide)) _) hX2,
    SL.own ((hb.setCell (p := ⟨p, 1, none⟩) (own_neR hb h1 (by decide)) _).setCell (p := ⟨p, 0, none⟩) (own_neR hb h1 (by decide)) _) hX2, (he.setCell hp0 _).setCell hp0 _⟩
end
set_option maxRecDepth 100000 in
set_option maxHeartbeats 8000000 in
theorem refRelease (u : Int) (X : Nat → Prop) (v1 v2 : Value) (h q : List Lock) (w : World) (hh : SL w X v1 h) (hq : SL w X v2 q) (hX : ∀ b, w.heap.size ≤ b → X b) (hn : h.length + q.length ≤ 90000) :
    Calls Tryz.prog 23 #[.agg #[v1, v2], .int .i64 u] w (GRes w X (P46.release ⟨h, q⟩ u).1 (P46.release ⟨h, q⟩ u).2) := by
  have HXX := Lib.hid hX
  have HN := Lib.hid hn
  obtain ⟨A1, n1, c1, rfl, hh1, hh2, hh3, -⟩ := hh
  obtain ⟨A2, n2, c2, rfl, hq1, hq2, hq3, -⟩ := hq
  have HQ1 := Lib.hid hq1
  have HH1 := Lib.hid hh1
  have hl1 := hh1.len
  have hl2 := hq1.len
  clear hX hn hq1 hq2 hq3 hh1 hh2 hh3
  have hlenS : (Tryz.prog.info? tS).map (·.size) = some 2 := by kernel_rfl
  go_enter Tryz.func23, Tryz.ntmps23
  go_upto_region 1 with (fail)
  obtain ⟨w1, p, r, e1, e2, e3, hb1, h1, h2⟩ := boxes2 w tS #[.slice A1 n1 c1, .slice A2 n2 c2] #[.slice none 0 0, .slice none 0 0]
  rw [e1, e3, e2]
  have hp0 : w.heap.size ≤ p := by omega
  have hr0 : w.heap.size ≤ r := by omega
  have hpr : r ≠ p := by omega
  have HB1 := Lib.hid hb1
  have HS1 := Lib.hid h1
  have HR1 := Lib.hid h2
  have hz1 := hb1.size
  have hp1 := h1.lt
  have hr1 := h2.lt
  clear e1 e2 e3 hb1 h1 h2
  have hl90 : n1 + n2 ≤ 90000 := by
    have := HN.out
    omega
  have HBe := Lib.hid ((Below.refl w1.heap.size w1).drew)
  have HSp := Lib.hid (HS1.out.drew)
  have HRr := Lib.hid (HR1.out.drew)
  have HHw := Lib.hid ((HH1.out.below HB1.out).below HBe.out)
  have HQw := Lib.hid ((HQ1.out.below HB1.out).below HBe.out)
  have hc0 := HS1.out.cell 0
  have hc1 := HS1.out.cell 1
  have hf0 := HS1.out.frozen 0
  have hf1 := HS1.out.frozen 1
  simp at hc0 hc1
  go_region_with (go_at_call 58; first | (have hq9 := HOa; clear hq9; refine (refWithout u _ _ _ _ _ (by first | exact HHw.out | exact HQw.out) (by omega)).mono ?_; rintro e wB ⟨vB, rfl, ho3, hb3⟩; have HOb := Lib.hid (ho3.base HBe.out.size); have HOa := Lib.hid (HOa.out.below hb3); have HSp := Lib.hid (HSp.out.below hb3); have HRr := Lib.hid (HRr.out.below hb3); have HHw := Lib.hid (HHw.out.below hb3); have HQw := Lib.hid (HQw.out.below hb3); have HBe := Lib.hid (HBe.out.trans (hb3.mono HBe.out.size)); have hc0 := HSp.out.cell 0; have hc1 := HSp.out.cell 1; have hf0 := HSp.out.frozen 0; have hf1 := HSp.out.frozen 1; have hlp := HSp.out.lt; simp at hc0 hc1; obtain ⟨aB, cB, hv3, -, -⟩ := ho3.cells; subst hv3; clear ho3 hb3) | (refine (refWithout u _ _ _ _ _ (by first | exact HHw.out | exact HQw.out) (by omega)).mono ?_; rintro e wA ⟨vA, rfl, ho3, hb3⟩; have HOa := Lib.hid (ho3.base HBe.out.size); have HSp := Lib.hid (HSp.out.below hb3); have HRr := Lib.hid (HRr.out.below hb3); have HHw := Lib.hid (HHw.out.below hb3); have HQw := Lib.hid (HQw.out.below hb3); have HBe := Lib.hid (HBe.out.trans (hb3.mono HBe.out.size)); have hc0 := HSp.out.cell 0; have hc1 := HSp.out.cell 1; have hf0 := HSp.out.frozen 0; have hf1 := HSp.out.frozen 1; have hlp := HSp.out.lt; simp at hc0 hc1; obtain ⟨aA, cA, hv3, -, -⟩ := ho3.cells; subst hv3; clear ho3 hb3))
  all_goals
    first
    | (obtain ⟨w4, e4, hf⟩ := both01 (X := X) HSp.out HRr.out HOa.out HOb.out hp0 hpr hz1 hr1 HXX.out (HB1.out.trans (HBe.out.mono hz1)); rw [e4]; have HF := Lib.hid hf; clear e4 hf)
    | (obtain ⟨w4, e4, hf⟩ := both01 (X := X) HSp.out HRr.out HOb.out HOa.out hp0 hpr hz1 hr1 HXX.out (HB1.out.trans (HBe.out.mono hz1)); rw [e4]; have HF := Lib.hid hf; clear e4 hf)
    | (obtain ⟨w4, e4, hf⟩ := both10 (X := X) HSp.out HRr.out HOa.out HOb.out hp0 hpr hz1 hr1 HXX.out (HB1.out.trans (HBe.out.mono hz1)); rw [e4]; have HF := Lib.hid hf; clear e4 hf)
    | (obtain ⟨w4, e4, hf⟩ := both10 (X := X) HSp.out HRr.out HOb.out HOa.out hp0 hpr hz1 hr1 HXX.out (HB1.out.trans (HBe.out.mono hz1)); rw [e4]; have HF := Lib.hid hf; clear e4 hf)
    have hr4 := HF.out.res.lt
    have hz4 := HF.out.low.size
    have hld : (drop q u).length ≤ q.length := List.length_filter_le _ _
    have hld2 : (drop h u).length ≤ h.length := List.length_filter_le _ _
    clear hc0 hc1 hf0 hf1 hlp HSp HRr HHw HQw HBe HOa HOb
    go_wp2_with (first | (refine wpList_load_cells rfl tS (.tmp 2) rfl ⟨p, 0, none⟩ rfl _ _ HF.out.box.add Tryz.underlying53 rfl hlenS ?_) | (go_at_call 59; refine (refGrant (fun b => X b ∧ b ≠ r) _ _ (drop h u) (drop q u) _ HF.out.held HF.out.queue (fun b hb => ⟨HXX.out b (by omega), by omega⟩) (by have := HN.out; omega)).mono ?_; rintro e w5 ⟨va, vb, vo, rfl, ha5, hb5, ho5, hbe5⟩; have HA5 := Lib.hid ha5; have HB5 := Lib.hid hb5; have HO5 := Lib.hid ho5; have HE5 := Lib.hid hbe5; have hr5 := HF.out.res.below hbe5; have HR5 := Lib.hid hr5; have hr50 := hr5.cell 0; have hr51 := hr5.cell 1; have hf50 := hr5.frozen 0; have hf51 := hr5.frozen 1; have hrl5 := hr5.lt; simp at hr50 hr51; obtain ⟨Aa, na, ca, hva, -⟩ := id ha5; obtain ⟨Ab, nb, cb, hvb, -⟩ := id hb5; subst hva; subst hvb; clear ha5 hb5 ho5 hbe5 hr5))
    exact bodyPost_ret (v := .tuple #[.agg #[.slice Aa na ca, .slice Ab nb cb], vo]) (by simp [results, Tryz.results23, go_sem, hr50, hr51]) rfl (gres_end HA5.out HB5.out HO5.out hz4 HR5.out hr0 (HF.out.low.trans (HE5.out.mono hz4)))
end Go.Proofs.YtjklhiifjnmedaaGreat
namespace Go.Proofs.YtjklhiifjnmedaaGreat
open Go.RowKit P16 P46 Go.Sort
attribute [local go_sem] ByteArray.mk_append_mk ByteArray.extract_mk mk_index
attribute [local irreducible] wpQuiet

theorem own_idx_none {q : List Lock} {u : Int} (h : idx q u = none) : own q u = [] := by
  unfold own
  rw [List.filter_eq_nil_iff]
  intro y hy
  simpa using idx_none.1 h y hy
theorem own_idx_some {q : List Lock} {u : Int} {i : Nat} (h : idx q u = some i) : ∃ y r, q[i]? = some y ∧ own q u = y :: r := by
  obtain ⟨y, h1, h2, h3, h4⟩ := idx_some h
  refine ⟨y, own (q.drop (i + 1)) u, h1, ?_⟩
  have e : own q u = own (q.take i ++ y :: q.drop (i + 1)) u := congrArg (own · u) h3
  rw [e]
  unfold own
  rw [List.filter_append, List.filter_cons_of_pos (by simpa using h2)]
  have h5 : (q.take i).filter (fun l => decide (l.unit = u)) = [] := by
    rw [List.filter_eq_nil_iff]
    intro z hz
    simpa using h4 z hz
  rw [h5, List.nil_append]
/-- What Request leaves. -/
def QRes (w : World) (X : Nat → Prop) (s : St × Int) (e : Ending) (w' : World) : Prop :=
  ∃ v1 v2, e = .returned (.tuple #[.agg #[v1, v2], .int .i64 s.2]) ∧ SL w' X v1 s.1.h ∧ SL w' X v2 s.1.q ∧ Below w.heap.size w w'
/-- Request at work: the state's box, the lock's, the result's. -/
structure QB (w wx : World) (p g r : Nat) (X : Nat → Prop) (l : Lock) (v1 v2 : Value) (s : St) : Prop where
  box : Blk wx p tS #[v1, v2]
  lk : Blk wx g tL (la l)
  res : Blk wx r tS #[.slice none 0 0, .slice none 0 0]
  pb : w.heap.size ≤ p ∧ w.heap.size ≤ r ∧ r ≠ p
  held : SL wx (fun b => X b ∧ b ≠ p ∧ b ≠ r) v1 s.h
  queue : SL wx (fun b => X b ∧ b ≠ p ∧ b ≠ r) v2 s.q
  low : Below w.heap.size w wx
/-- .. behind the cancelling. -/
def QMid (w : World) (p g r : Nat) (X : Nat → Prop) (s : St) (l : Lock) (wx : World) : Prop :=
  ∃ s' v1 v2, request s l = P46.ask s' l ∧ QB w wx p g r X l v1 v2 s' ∧ P46.Good s' ∧ s'.h.length + s'.q.length ≤ s.h.length + s.q.length
section
variable {w wx w' : World} {p g r : Nat} {X : Nat → Prop} {l : Lock} {v1 v2 u : Value} {s : St} {hs qs : List Lock}
theorem QB.below (k : QB w wx p g r X l v1 v2 s) (hb : Below wx.heap.size wx w') : QB w w' p g r X l v1 v2 s :=
  ⟨k.box.below hb, k.lk.below hb, k.res.below hb, k.pb, k.held.below hb, k.queue.below hb, k.low.trans (hb.mono k.low.size)⟩
theorem QB.putQ (k : QB w wx p g r X l v1 v2 s) (hs : SL wx (fun b => X b ∧ b ≠ p ∧ b ≠ r) u qs) : QB w (wx.setCell ⟨p, 1, none⟩ u) p g r X l v1 u ⟨s.h, qs⟩ :=
  ⟨by simpa using k.box.put 1 u, k.lk.far (Blk.ne k.lk k.box (by decide)) u, k.res.far k.pb.2.2 u, k.pb, k.held.setCell (fun _ hb => hb.2.1) _, hs.setCell (fun _ hb => hb.2.1) _, k.low.setCell k.pb.1 _⟩
theorem QB.putH (k : QB w wx p g r X l v1 v2 s) (hq : SL wx (fun b => X b ∧ b ≠ p ∧ b ≠ r) u hs) : QB w (wx.setCell ⟨p, 0, none⟩ u) p g r X l u v2 ⟨hs, s.q⟩ :=
  ⟨by simpa using k.box.put 0 u, k.lk.far (Blk.ne k.lk k.box (by decide)) u, k.res.far k.pb.2.2 u, k.pb, hq.setCell (fun _ hb => hb.2.1) _, k.queue.setCell (fun _ hb => hb.2.1) _, k.low.setCell k.pb.1 _⟩
theorem QB.both (k : QB w wx p g r X l v1 v2 s) {va vb : Value} {s' : St} (ha : SL wx (fun b => X b ∧ b ≠ p ∧ b ≠ r) va s'.h) (hb : SL wx (fun b => X b ∧ b ≠ p ∧ b ≠ r) vb s'.q) : QB w ((wx.setCell ⟨p, 0, none⟩ va).setCell ⟨p, 1, none⟩ vb) p g r X l va vb s' := by
  have h0 := (k.putH ha).putQ (hb.setCell (p := ⟨p, 0, none⟩) (fun _ hb => hb.2.1) va)
  exact h0
theorem QB.end_ (k : QB w wx p g r X l v1 v2 s) (code : Int) : QRes w X (s, code) (.returned (.tuple #[.agg #[v1, v2], .int .i64 code])) ((wx.setCell ⟨r, 0, none⟩ v1).setCell ⟨r, 1, none⟩ v2) :=
  ⟨v1, v2, rfl, ((k.held.setCell (p := ⟨r, 0, none⟩) (fun _ hb => hb.2.2) v1).setCell (p := ⟨r, 1, none⟩) (fun _ hb => hb.2.2) v2).mono (fun _ _ h => h.1),
    ((k.queue.setCell (p := ⟨r, 0, none⟩) (fun _ hb => hb.2.2) v1).setCell (p := ⟨r, 1, none⟩) (fun _ hb => hb.2.2) v2).mono (fun _ _ h => h.1), (k.low.setCell k.pb.2.1 _).setCell k.pb.2.1 _⟩
theorem QB.open_ (k : QB w wx p g r X l v1 v2 s) : ∃ A1 n1 c1 A2 n2 c2, v1 = .slice A1 n1 c1 ∧ v2 = .slice A2 n2 c2 ∧ LocksAt wx A1 n1 s.h ∧ LocksAt wx A2 n2 s.q ∧ (A1 = none → n1 = 0) ∧ (A2 = none → n2 = 0) := by
  obtain ⟨A1, n1, c1, rfl, h1, h2, _, _⟩ := k.held
  obtain ⟨A2, n2, c2, rfl, h3, h4, _, _⟩ := k.queue
  exact ⟨A1, n1, c1, A2, n2, c2, rfl, rfl, h1, h3, h2, h4⟩
end
theorem boxes3 (w : World) (v1 v2 : Value) (l : Lock) : ∃ (w2 : World) (p g r : Nat), ((w.alloc (.cells #[v1, v2] tS)).alloc (.cells (la l) tL)).alloc (.cells #[.slice none 0 0, .slice none 0 0] tS) = w2 ∧ w.heap.size = p ∧ w.heap.size + 1 = g ∧ w.heap.size + 1 + 1 = r ∧ Below w.heap.size w w2 ∧ Blk w2 p tS #[v1, v2] ∧ Blk w2 g tL (la l) ∧ Blk w2 r tS #[.slice none 0 0, .slice none 0 0] := by
  refine ⟨_, _, _, _, rfl, rfl, rfl, rfl, below_alloc (below_alloc (below_alloc (Below.refl _ _) _) _) _, ((Blk.new w tS _).alloc _).alloc _, ?_, ?_⟩
  · have := (Blk.new (w.alloc (.cells #[v1, v2] tS)) tL (la l)).alloc (.cells #[.slice none 0 0, .slice none 0 0] tS)
    rwa [World.size_alloc] at this
  · have := Blk.new ((w.alloc (.cells #[v1, v2] tS)).alloc (.cells (la l) tL)) tS #[.slice none 0 0, .slice none 0 0]
    rwa [World.size_alloc, World.size_alloc] at this
set_option maxRecDepth 100000 in
set_option maxHeartbeats 8000000 in
theorem refRequest (l : Lock) (X : Nat → Prop) (v1 v2 : Value) (h q : List Lock) (w : World) (hh : SL w X v1 h) (hq : SL w X v2 q) (hX : ∀ b, w.heap.size ≤ b → X b) (hn : h.length + q.length ≤ 80000) (hgood : P46.Good ⟨h, q⟩) :
    Calls Tryz.prog 68 #[.agg #[v1, v2], lv l] w (QRes w X (request ⟨h, q⟩ l)) := by
  have HXX := Lib.hid hX
  have HN := Lib.hid hn
  have HGD := Lib.hid hgood
  have HH := Lib.hid hh
  have HQ := Lib.hid hq
  have HRQ := Lib.hid (show request ⟨h, q⟩ l = if validL l = false then ((⟨h, q⟩ : St), (1 : Int)) else if covered h l = true then (⟨h, q⟩, 0) else match idx q l.unit with | some i => if q[i]? = some l then (⟨h, q⟩, 15) else P46.ask (P46.cancel ⟨h, q⟩ l.unit).1 l | none => P46.ask ⟨h, q⟩ l from rfl)
  clear hX hn hgood hh hq
  have hlenS : (Tryz.prog.info? tS).map (·.size) = some 2 := by kernel_rfl
  have hlenL : (Tryz.prog.info? 30).map (·.size) = some 6 := by kernel_rfl
  obtain ⟨i0, hi0, hz0, hz1, hz2⟩ := info_parts infoL
  have HI := Lib.hid hi0
  have HZ0 := Lib.hid hz0
  have HZ1 := Lib.hid hz1
  have HZ2 := Lib.hid hz2
  clear hi0 hz0 hz1 hz2
  unfold lv
  go_enter Tryz.func68, Tryz.ntmps68
  go_upto_region 1 with (fail)
  obtain ⟨w1, p, g, r, e1, e2, e3, e4, hb1, h1, h2, h3⟩ := boxes3 w v1 v2 l
  unfold la at e1
  rw [e1, e4, e3, e2]
  have HK1 := Lib.hid (show QB w w1 p g r X l v1 v2 ⟨h, q⟩ from ⟨h1, h2, h3, ⟨by omega, by omega, by omega⟩, (HH.out.mono (fun b hb hx => ⟨hx, by omega, by omega⟩)).below hb1, (HQ.out.mono (fun b hb hx => ⟨hx, by omega, by omega⟩)).below hb1, hb1⟩)
  have hXp : ∀ b, w1.heap.size ≤ b → X b ∧ b ≠ p ∧ b ≠ r := fun b hb => by
    have k1 := h1.lt
    have k3 := h3.lt
    have k4 := hb1.size
    exact ⟨HXX.out b (by omega), by omega, by omega⟩
  have HXP := Lib.hid hXp
  clear e1 e2 e3 e4 hb1 h1 h2 h3 hXp
  obtain ⟨A1, n1, c1, A2, n2, c2, rfl, rfl, hs1, hs2, hn1, hn2⟩ := HK1.out.open_
  have hl1 := hs1.len
  have hl2 := hs2.len
  have hnn : n1 + n2 ≤ 80000 := by
    have := HN.out
    simp only at hl1 hl2
    omega
  clear hl1 hl2
  cases hval : validL l with
  | false =>
    have HE := Lib.hid (show request ⟨h, q⟩ l = ((⟨h, q⟩ : St), (1 : Int)) from by rw [HRQ.out, if_pos hval])
    have cV : ∀ W, Calls Tryz.prog 63 #[lv l] W fun e w' => e = .returned (.bool false) ∧ Below W.heap.size W w' := fun W => by
      have := refValid l W
      rw [hval] at this
      exact this
    have CV := Lib.hid cV
    clear cV hval hs1 hs2
    go_wp2_with (first | (refine wpList_load_cells rfl tS (.tmp 2) rfl ⟨p, 0, none⟩ rfl _ _ HK1.out.box.add Tryz.underlying53 rfl hlenS ?_) | (refine wpList_load_cells rfl 30 (.tmp 3) rfl ⟨g, 0, none⟩ rfl _ _ HK1.out.lk.add Tryz.underlying30 rfl hlenL ?_) | (go_at_call 63; refine (CV.out _).mono ?_; rintro e w3 ⟨rfl, hb3⟩; have HK3 := Lib.hid (HK1.out.below hb3); clear hb3; have hr0 := HK3.out.res.cell 0; have hr1 := HK3.out.res.cell 1; have hf0 := HK3.out.res.frozen 0; have hf1 := HK3.out.res.frozen 1; have hrl := HK3.out.res.lt; simp at hr0 hr1) | (refine wpList_load_cells rfl tS (.tmp 2) rfl ⟨p, 0, none⟩ rfl _ _ HK3.out.box.add Tryz.underlying53 rfl hlenS ?_) | (refine wpList_load_cells rfl 30 (.tmp 3) rfl ⟨g, 0, none⟩ rfl _ _ HK3.out.lk.add Tryz.underlying30 rfl hlenL ?_))
    rw [HE.out]
    exact bodyPost_ret (v := .tuple #[.agg #[.slice A1 n1 c1, .slice A2 n2 c2], .int .i64 1]) (by simp [results, Tryz.results68, go_sem, hr0, hr1]) rfl (HK3.out.end_ 1)
  | true =>
    have HRV := Lib.hid (show request ⟨h, q⟩ l = if covered h l = true then ((⟨h, q⟩ : St), (0 : Int)) else match idx q l.unit with | some i => if q[i]? = some l then (⟨h, q⟩, 15) else P46.ask (P46.cancel ⟨h, q⟩ l.unit).1 l | none => P46.ask ⟨h, q⟩ l from by rw [HRQ.out, if_neg (by rw [hval]; simp)])
    have cV : ∀ W, Calls Tryz.prog 63 #[lv l] W fun e w' => e = .returned (.bool true) ∧ Below W.heap.size W w' := fun W => by
      have := refValid l W
      rw [hval] at this
      exact this
    have CV := Lib.hid cV
    have HS1 := Lib.hid hs1
    have HS2 := Lib.hid hs2
    clear cV hval hs1 hs2 HRQ
    cases hcov : covered h l with
    | true =>
      have HE := Lib.hid (show request ⟨h, q⟩ l = ((⟨h, q⟩ : St), (0 : Int)) from by rw [HRV.out, if_pos hcov])
      have HCO := Lib.hid hcov
      clear hcov
      go_wp2_with (first | (refine wpList_load_cells rfl tS (.tmp 2) rfl ⟨p, 0, none⟩ rfl _ _ HK1.out.box.add Tryz.underlying53 rfl hlenS ?_) | (refine wpList_load_cells rfl 30 (.tmp 3) rfl ⟨g, 0, none⟩ rfl _ _ HK1.out.lk.add Tryz.underlying30 rfl hlenL ?_) | (go_at_call 63; refine (CV.out _).mono ?_; rintro e w3 ⟨rfl, hb3⟩; have HK3 := Lib.hid (HK1.out.below hb3); have HS3 := Lib.hid (HS1.out.below hb3); have HB31 := Lib.hid hb3; clear hb3) | (refine wpList_load_cells rfl tS (.tmp 2) rfl ⟨p, 0, none⟩ rfl _ _ HK3.out.box.add Tryz.underlying53 rfl hlenS ?_) | (refine wpList_load_cells rfl 30 (.tmp 3) rfl ⟨g, 0, none⟩ rfl _ _ HK3.out.lk.add Tryz.underlying30 rfl hlenL ?_) | (go_at_call 99; refine (refCovered l A1 A2 n1 c1 n2 c2 h _ HS3.out (by omega)).mono ?_; rintro e w4 ⟨rfl, hb4⟩; rw [HCO.out]; have HK4 := Lib.hid (HK3.out.below hb4); clear hb4; have hr0 := HK4.out.res.cell 0; have hr1 := HK4.out.res.cell 1; have hf0 := HK4.out.res.frozen 0; have hf1 := HK4.out.res.frozen 1; have hrl := HK4.out.res.lt; simp at hr0 hr1) | (refine wpList_load_cells rfl tS (.tmp 2) rfl ⟨p, 0, none⟩ rfl _ _ HK4.out.box.add Tryz.underlying53 rfl hlenS ?_) | (refine wpList_load_cells rfl 30 (.tmp 3) rfl ⟨g, 0, none⟩ rfl _ _ HK4.out.lk.add Tryz.underlying30 rfl hlenL ?_))
      rw [HE.out]
      exact bodyPost_ret (v := .tuple #[.agg #[.slice A1 n1 c1, .slice A2 n2 c2], .int .i64 0]) (by simp [results, Tryz.results68, go_sem, hr0, hr1]) rfl (HK4.out.end_ 0)
    | false =>
      have HRC := Lib.hid (show request ⟨h, q⟩ l = match idx q l.unit with | some i => if q[i]? = some l then ((⟨h, q⟩ : St), (15 : Int)) else P46.ask (P46.cancel ⟨h, q⟩ l.unit).1 l | none => P46.ask ⟨h, q⟩ l from by rw [HRV.out, if_neg (by rw [hcov]; simp)])
      have HCO := Lib.hid hcov
      clear hcov HRV
      go_upto_region 5 with (first | (refine wpList_load_cells rfl tS (.tmp 2) rfl ⟨p, 0, none⟩ rfl _ _ HK1.out.box.add Tryz.underlying53 rfl hlenS ?_) | (refine wpList_load_cells rfl 30 (.tmp 3) rfl ⟨g, 0, none⟩ rfl _ _ HK1.out.lk.add Tryz.underlying30 rfl hlenL ?_) | (go_at_call 63; refine (CV.out _).mono ?_; rintro e w3 ⟨rfl, hb3⟩; have HK3 := Lib.hid (HK1.out.below hb3); have HS3 := Lib.hid (HS1.out.below hb3); have HB31 := Lib.hid hb3; clear hb3) | (refine wpList_load_cells rfl tS (.tmp 2) rfl ⟨p, 0, none⟩ rfl _ _ HK3.out.box.add Tryz.underlying53 rfl hlenS ?_) | (refine wpList_load_cells rfl 30 (.tmp 3) rfl ⟨g, 0, none⟩ rfl _ _ HK3.out.lk.add Tryz.underlying30 rfl hlenL ?_) | (go_at_call 99; refine (refCovered l A1 A2 n1 c1 n2 c2 h _ HS3.out (by omega)).mono ?_; rintro e w4 ⟨rfl, hb4⟩; rw [HCO.out]; have HK4 := Lib.hid (HK3.out.below hb4); have HB43 := Lib.hid ((HB31.out).trans (hb4.mono HB31.out.size)); clear hb4))
      have HQ4 := Lib.hid (HS2.out.below (HB43.out))
      have hc41 := HK4.out.box.cell 1
      simp at hc41
      obtain ⟨hx40, -, -, -, -, -⟩ := lcells HK4.out.lk
      go_upto_if 23 with (go_at_call 100; refine (refOf l.unit A2 n2 c2 q _ HQ4.out (by omega)).mono ?_; rintro e w5 ⟨v5, rfl, ho5, hb5⟩; have HO5 := Lib.hid ho5; have HK5 := Lib.hid (HK4.out.below hb5); have HB54 := Lib.hid hb5.size; obtain ⟨A5, c5, hv5, -, -⟩ := ho5.cells; subst hv5; clear ho5 hb5)
      clear hc41 hx40
      go_cut [6] (fun _ wx => QMid w p g r X ⟨h, q⟩ l wx)
      case first =>
        cases hi : idx q l.unit with
        | none =>
          have HE := Lib.hid (show request ⟨h, q⟩ l = P46.ask ⟨h, q⟩ l from by rw [HRC.out, hi])
          rw [own_idx_none hi]
          simp only [List.length_nil]
          clear hi
          go_wp2
          go_meet
          case rel => exact ⟨⟨h, q⟩, _, _, HE.out, HK5.out, HGD.out, Nat.le_refl _⟩
        | some i =>
          have HE := Lib.hid (show request ⟨h, q⟩ l = if q[i]? = some l then ((⟨h, q⟩ : St), (15 : Int)) else P46.ask (P46.cancel ⟨h, q⟩ l.unit).1 l from by rw [HRC.out, hi])
          obtain ⟨y, rr, hy, how⟩ := own_idx_some hi
          have HY := Lib.hid hy
          rw [how] at HO5 ⊢
          obtain ⟨hs5, hl5⟩ := HO5.out.reads3
          obtain ⟨n5, hn5⟩ : ∃ n5, (y :: rr).length = n5 := ⟨_, rfl⟩
          have hn5p : 0 < n5 := by rw [← hn5]; simp
          have hn5q : decide (0 < n5) = true := decide_eq_true hn5p
          rw [hn5] at hs5 HO5 ⊢
          obtain ⟨b, off, y', rfl, hy0, y0, y1, y2, y3, y4, y5⟩ := hs5.at_ (k := 0) (by omega)
          have hyy : y' = y := by simpa using hy0.symm
          subst hyy
          simp only [Nat.zero_mul, Nat.add_zero] at y0 y1 y2 y3 y4 y5
          obtain ⟨x0, x1, x2, x3, x4, x5⟩ := lcells HK5.out.lk
          have heq := fun w => run_eql_lock w y' l
          have hgd := fun w op a b => run_eqGuard_lock w op a b y' l
          unfold lv at heq hgd
          clear hs5 hy hi how hy0 hl5 hn5
          go_upto_region 7 with (fail)
          go_quiet (fail)
          have HK6 := Lib.hid (HK5.out.below (below_drewN (Below.refl w5.heap.size w5) nq))
          have HBS6 := Lib.hid (show w4.heap.size ≤ w5.heap.size ∧ w5.heap.size ≤ (w5.drewN nq).heap.size from ⟨HB54.out, Nat.le_refl _⟩)
          generalize w5.drewN nq = w6 at HK6 HBS6 ⊢
          clear y0 y1 y2 y3 y4 y5 x0 x1 x2 x3 x4 x5 heq hgd hn5p hn5q
          by_cases hyl : y' = l
          · have HE2 := Lib.hid (show request ⟨h, q⟩ l = ((⟨h, q⟩ : St), (15 : Int)) from by rw [HE.out, if_pos (by rw [HY.out, hyl])])
            have hd : decide (y' = l) = true := decide_eq_true hyl
            rw [hd]
            clear hyl hd
            have hr0 := HK6.out.res.cell 0
            have hr1 := HK6.out.res.cell 1
            have hf0 := HK6.out.res.frozen 0
            have hf1 := HK6.out.res.frozen 1
            have hrl := HK6.out.res.lt
            simp at hr0 hr1
            go_wp2_with (first | (refine wpList_load_cells rfl tS (.tmp 2) rfl ⟨p, 0, none⟩ rfl _ _ HK6.out.box.add Tryz.underlying53 rfl hlenS ?_) | (refine wpList_load_cells rfl 30 (.tmp 3) rfl ⟨g, 0, none⟩ rfl _ _ HK6.out.lk.add Tryz.underlying30 rfl hlenL ?_))
            rw [HE2.out]
            exact bodyPost_ret (v := .tuple #[.agg #[.slice A1 n1 c1, .slice A2 n2 c2], .int .i64 15]) (by simp [results, Tryz.results68, go_sem, hr0, hr1]) rfl (HK6.out.end_ 15)
          · have HE2 := Lib.hid (show request ⟨h, q⟩ l = P46.ask (P46.cancel ⟨h, q⟩ l.unit).1 l from by rw [HE.out, if_neg (by rw [HY.out]; simpa using hyl)])
            have hd : decide (y' = l) = false := decide_eq_false hyl
            rw [hd]
            clear hyl hd
            obtain ⟨hx60, -, -, -, -, -⟩ := lcells HK6.out.lk
            have hz6 : w1.heap.size ≤ w6.heap.size := by
              have h9 := HBS6.out
              have h8 := HB43.out.size
              omega
            go_wp2_with (first | (refine wpList_load_cells rfl tS (.tmp 2) rfl ⟨p, 0, none⟩ rfl _ _ HK6.out.box.add Tryz.underlying53 rfl hlenS ?_) | (refine wpList_load_cells rfl 30 (.tmp 3) rfl ⟨g, 0, none⟩ rfl _ _ HK6.out.lk.add Tryz.underlying30 rfl hlenL ?_) | (go_at_call 22; refine (refCancel l.unit (fun b => X b ∧ b ≠ p ∧ b ≠ r) _ _ h q _ HK6.out.held HK6.out.queue (fun b hb => HXP.out b (by omega)) (by have := HN.out; omega)).mono ?_; rintro e w7 ⟨va, vb, vo, rfl, ha7, hb7, ho7, hbe7⟩; have HA7 := Lib.hid ha7; have HB7 := Lib.hid hb7; have HK7 := Lib.hid (HK6.out.below hbe7); obtain ⟨Aa, na, ca, hva, -⟩ := id ha7; obtain ⟨Ab, nb, cb, hvb, -⟩ := id hb7; subst hva; subst hvb; have hp70 := HK7.out.box.cell 0; have hp71 := HK7.out.box.cell 1; have hf70 := HK7.out.box.frozen 0; have hf71 := HK7.out.box.frozen 1; have hpl7 := HK7.out.box.lt; simp at hp70 hp71; clear ha7 hb7 ho7 hbe7))
            go_meet
            case rel => exact ⟨_, _, _, HE2.out, HK7.out.both HA7.out HB7.out, cancel_good HGD.out _, cancel_len _ _⟩
      case rest =>
        obtain ⟨s', v1', v2', hrq, hk8, hg8, hl8⟩ := hcut
        have HE8 := Lib.hid hrq
        have HG8 := Lib.hid hg8
        have HK8 := Lib.hid hk8
        obtain ⟨A3, n3, c3, A4, n4, c4, rfl, rfl, hs3, hs4, hn3, hn4⟩ := hk8.open_
        have hl3 := hs3.len
        have hl4 := hs4.len
        have hnn8 : n3 + n4 ≤ 80000 := by
          have := HN.out
          simp only at hl8
          omega
        have HS3' := Lib.hid hs3
        have HS4' := Lib.hid hs4
        have HN3 := Lib.hid hn3
        have HN4 := Lib.hid hn4
        have HL3 := Lib.hid hl3
        have HL4 := Lib.hid hl4
        have hc81 := HK8.out.box.cell 1
        simp at hc81
        clear hrq hk8 hg8 hl8 hs3 hs4 hn3 hn4 hl3 hl4 HK1 HK3 HK4 HK5 HB31 HB43 HQ4 HS3 HO5 HS1 HS2 hn1 hn2 hnn
        obtain ⟨hs', qs'⟩ := s'
        have HTQ := Lib.hid (show qs'.take n4 = qs' from List.take_of_length_le (by rw [HL4.out]; exact Nat.le_refl _))
        go_upto_region 11 with (first | (refine wpList_load_cells rfl tS (.tmp 2) rfl ⟨p, 0, none⟩ rfl _ _ HK8.out.box.add Tryz.underlying53 rfl hlenS ?_) | (refine wpList_load_cells rfl 30 (.tmp 3) rfl ⟨g, 0, none⟩ rfl _ _ HK8.out.lk.add Tryz.underlying30 rfl hlenL ?_) | (go_at_call 93; refine (refBlocks l A3 A4 n3 c3 n4 c4 n4 hs' qs' _ HS3'.out HS4'.out (by omega) (by omega) (Nat.le_refl _)).mono ?_; rintro e w9 ⟨v9, rfl, ho9, hb9⟩; rw [HTQ.out] at ho9; have HO9 := Lib.hid ho9; have HK9 := Lib.hid (HK8.out.below hb9); have HS3'' := Lib.hid (HS3'.out.below hb9); have HS4'' := Lib.hid (HS4'.out.below hb9); have hz9 := hb9.size; obtain ⟨A9, c9, hv9, -, -⟩ := ho9.cells; subst hv9; clear ho9 hb9))
        have HB9 := Lib.hid (HK9.out.low.size)
        by_cases hnil : blks hs' qs' l = []
        · have HEA := Lib.hid (show request ⟨h, q⟩ l = ((⟨hs' ++ [l], qs'⟩ : St), (0 : Int)) from by rw [HE8.out]; unfold P46.ask; rw [if_pos hnil])
          rw [hnil]
          simp only [List.length_nil]
          clear hnil
          go_upto_region 12 with (fail)
          have HSL := Lib.hid HS3''.out
          have HBL := Lib.hid HK9.out.lk
          have HC0 := Lib.hid (show w9.cell? ⟨p, 0, none⟩ = some (.slice A3 n3 c3) from by have := HK9.out.box.cell 0; simpa using this)
          have hn80 : n3 ≤ 80000 := by omega
          have hwz := HK9.out.low.size
          have hplz := HK9.out.box.lt
          have hrlz := HK9.out.res.lt
          refine wp_region_kill 6 8 (by kernel_rfl) (by kernel_rfl) (fun i => match i with | 0 => some 6 | 3 => some 6 | 5 => some 6 | _ => none) (RK w9.heap.size 6) (fun w1 => Below w9.heap.size w9 w1)
            (fun i v w1 => match i with
              | 0 => EmptyAt w1 w9.heap.size 30 v
              | 1 => v = .pointer (some ⟨p, 0, none⟩)
              | 2 => v = .slice A3 n3 c3
              | 3 => RowAt w1 w9.heap.size 30 6 n3 (lcs hs') v
              | 4 => v = .agg (la l)
              | 5 => OneAt w1 30 (la l) v
              | 6 => RowAt w1 w9.heap.size 30 6 (n3 + 1) (lcs hs' ++ lc l) v
              | 7 => v = .pointer (some ⟨p, 0, none⟩)
              | _ => True) (fun _ _ _ h1 h2 => RK.keep h1 h2) ?_ ((Below.refl _ _).drew) ?_ ?_
          · intro kk ii vv w1 w2 hik hk hf hR
            match ii, hik, hk, hf with
            | 0, _, hk, hf => exact EmptyAt.below hf (RK.at_ hR (fun e => hk (by subst e; rfl)))
            | 1, _, _, hf => exact hf
            | 2, _, _, hf => exact hf
            | 3, _, hk, hf => exact RowAt.below hf (RK.at_ hR (fun e => hk (by subst e; rfl)))
            | 4, _, _, hf => exact hf
            | 5, _, hk, hf => exact OneAt.below hf (RK.at_ hR (fun e => hk (by subst e; rfl)))
            | 6, hik, _, hf => exact RowAt.below hf (RK.at_ hR (Ne.symm hik))
            | 7, _, _, hf => exact hf
            | n + 8, _, _, _ => trivial
          · refine allOps_cons ?_ (allOps_cons ?_ (allOps_cons ?_ (allOps_cons ?_ (allOps_cons ?_ (allOps_cons ?_ (allOps_cons ?_ (allOps_cons ?_ allOps_nil)))))))
            · intro u w1 hC hd K hK
              simp only [List.take_succ_cons, List.take_zero, putAll, Act.put, List.setIfInBounds_toArray, List.set_cons_succ, List.set_cons_zero, Nat.zero_add, Nat.reduceAdd] at hK ⊢
              go_simp
              exact hK _ _ (RK.below (below_alloc (Below.refl _ _) _) (by decide)) (EmptyAt.new _ _ hC.size)
            · intro u w1 hC hd K hK
              simp only [List.take_succ_cons, List.take_zero, putAll, Act.put, List.setIfInBounds_toArray, List.set_cons_succ, List.set_cons_zero, Nat.zero_add, Nat.reduceAdd] at hK ⊢
              go_simp
              exact hK _ _ (RK.same (by decide)) rfl
            · intro u w1 hC hd K hK
              have h1 : u 1 = .pointer (some ⟨p, 0, none⟩) := hd 1 rfl rfl
              have hc1 : w1.cell? ⟨p, 0, none⟩ = some (.slice A3 n3 c3) := by rw [hC.cell (p := ⟨p, 0, none⟩) (World.block_lt_of_cell? w9 _ HC0.out)]; exact HC0.out
              simp only [List.take_succ_cons, List.take_zero, putAll, Act.put, List.setIfInBounds_toArray, List.set_cons_succ, List.set_cons_zero, Nat.zero_add, Nat.reduceAdd, h1] at hK ⊢
              go_simp
              exact hK _ _ (RK.same (by decide)) rfl
            · intro u w1 hC hd K hK
              have h2 : u 2 = .slice A3 n3 c3 := hd 2 rfl rfl
              obtain ⟨g0, hg0, hg1, hg2⟩ := hd 0 rfl rfl
              simp only [List.take_succ_cons, List.take_zero, putAll, Act.put, List.setIfInBounds_toArray, List.set_cons_succ, List.set_cons_zero, Nat.zero_add, Nat.reduceAdd, h2] at hK ⊢
              rw [if_pos (show Region.wanted _ _ = true from rfl)]
              refine wp_append_empty w1 (.tmp 46) (.tmp 48) 41 rfl 30 i0 _ 6 64 Tryz.underlying41 HI.out HZ0.out HZ1.out HZ2.out rfl (by omega) g0 w9.heap.size hg0 hg1 hg2 A3 n3 c3 _ rfl (HSL.out.below hC) (lcs_one _) (by unfold maxLen; omega) (by omega) ?_
              intro v' w2 hown2 hb2
              exact hK v' w2 (RK.below hb2 (by decide)) hown2
            · intro u w1 hC hd K hK
              simp only [List.take_succ_cons, List.take_zero, putAll, Act.put, List.setIfInBounds_toArray, List.set_cons_succ, List.set_cons_zero, Nat.zero_add, Nat.reduceAdd] at hK ⊢
              rw [if_pos (show Region.wanted _ _ = true from rfl)]
              exact wp_load_cells 30 (.tmp 3) rfl ⟨g, 0, none⟩ rfl (la l) _ ((HBL.out.below hC).add) Tryz.underlying30 rfl hlenL (hK _ _ (RK.same (by decide)) rfl)
            · intro u w1 hC hd K hK
              have h4 : u 4 = .agg (la l) := hd 4 rfl rfl
              simp only [List.take_succ_cons, List.take_zero, putAll, Act.put, List.setIfInBounds_toArray, List.set_cons_succ, List.set_cons_zero, Nat.zero_add, Nat.reduceAdd, h4] at hK ⊢
              unfold la at hK ⊢
              go_simp
              exact hK _ _ (RK.below (below_alloc (Below.refl _ _) _) (by decide)) (OneAt.new _ _ _)
            · intro u w1 hC hd K hK
              have h4 : RowAt w1 w9.heap.size 30 6 n3 (lcs hs') (u 3) := hd 3 rfl rfl
              obtain ⟨g1, hg0, hg1⟩ := hd 5 rfl rfl
              simp only [List.take_succ_cons, List.take_zero, putAll, Act.put, List.setIfInBounds_toArray, List.set_cons_succ, List.set_cons_zero, Nat.zero_add, Nat.reduceAdd] at hK ⊢
              rw [if_pos (show Region.wanted _ _ = true from rfl)]
              refine wp_append_own (.tmp 49) (.tmp 51) 41 rfl w9.heap.size 30 i0 _ 6 64 Tryz.underlying41 HI.out HZ0.out HZ1.out HZ2.out rfl (by omega) (u 3) n3 _ rfl h4 (some ⟨g1, 0, none⟩) 1 1 (lc l) hg0 (fun e => by cases e) (one_cells hg1) (lc_one _) (by unfold maxLen; omega) (by omega) hC.size ?_
              intro v' w2 hr hg
              exact hK v' w2 (RK.grown hg (row_base h4)) hr
            · intro u w1 hC hd K hK
              simp only [List.take_succ_cons, List.take_zero, putAll, Act.put, List.setIfInBounds_toArray, List.set_cons_succ, List.set_cons_zero, Nat.zero_add, Nat.reduceAdd] at hK ⊢
              go_simp
              exact hK _ _ (RK.same (by decide)) rfl
          · intro u wt hC hf
            have h6 : RowAt wt w9.heap.size 30 6 (n3 + 1) (lcs hs' ++ lc l) (u 6) := hf 6 (by omega) rfl
            have h7 : u 7 = .pointer (some ⟨p, 0, none⟩) := hf 7 (by omega) rfl
            have HC := Lib.hid hC
            have hls : (hs' ++ [l]).length = n3 + 1 := by rw [List.length_append, HSL.out.len]; rfl
            have HO10 := Lib.hid (OwnL.of_row (C := w9.heap.size) (ls := hs' ++ [l]) (by rw [lcs_append]; simpa [lcs] using h6) hls (Nat.le_refl _))
            have HK10 := Lib.hid (HK9.out.below HC.out)
            obtain ⟨A10, c10, hv10, -, -⟩ := HO10.out.cells
            rw [hls] at hv10
            simp only [List.take_succ_cons, List.take_zero, List.drop_succ_cons, List.drop_zero, putAll, Act.put, List.setIfInBounds_toArray, List.set_cons_succ, List.set_cons_zero, Nat.zero_add, Nat.reduceAdd, h7, hv10]
            have hfr := HK10.out.box.frozen 0
            have hcr := HK10.out.box.cell 0
            have hpl := HK10.out.box.lt
            simp at hcr
            have HKb := Lib.hid (HK10.out.putH (SL.own HO10.out (fun b hb => ⟨HXX.out b (by omega), by omega, by omega⟩)))
            rw [hv10] at HKb
            clear hC hf h6 h7 hv10 HO10 hls
            go_upto_region 13 with (fail)
            generalize wt.setCell ⟨p, 0, none⟩ _ = w11 at HKb ⊢
            clear hfr hcr hpl HK10 HC
            have hr0 := HKb.out.res.cell 0
            have hr1 := HKb.out.res.cell 1
            have hf0 := HKb.out.res.frozen 0
            have hf1 := HKb.out.res.frozen 1
            have hrl := HKb.out.res.lt
            simp at hr0 hr1
            go_wp2_with (first | (refine wpList_load_cells rfl tS (.tmp 2) rfl ⟨p, 0, none⟩ rfl _ _ HKb.out.box.add Tryz.underlying53 rfl hlenS ?_) | (refine wpList_load_cells rfl 30 (.tmp 3) rfl ⟨g, 0, none⟩ rfl _ _ HKb.out.lk.add Tryz.underlying30 rfl hlenL ?_))
            rw [HEA.out]
            exact bodyPost_ret (v := .tuple #[.agg #[.slice A10 (n3 + 1) c10, .slice A4 n4 c4], .int .i64 0]) (by simp [results, Tryz.results68, go_sem, hr0, hr1]) rfl (HKb.out.end_ 0)
        · have hpos : 0 < (blks hs' qs' l).length := List.length_pos_iff.2 hnil
          have hb9 := HO9.out.reads3
          have hlb : (blks hs' qs' l).length ≤ 100000 := by
            rw [blks_parts, List.length_append]
            have h1 := blkH_len hs' l
            have h2 := blkQ_len (own hs' l.unit) qs' l
            have h3 := HL3.out
            have h4 := HL4.out
            omega
          have HBI := Lib.hid hb9.1
          have HBN := Lib.hid HO9.out.nilLenR
          have HNB := Lib.hid hnil
          obtain ⟨nb, hnb⟩ : ∃ nb, (blks hs' qs' l).length = nb := ⟨_, rfl⟩
          rw [hnb] at hpos HBI HBN hlb ⊢
          have hq0 : (nb == 0) = false := by simp; omega
          clear hnil hb9 hnb
          cases hrs : reaches ⟨hs', qs'⟩ (blks hs' qs' l) l.unit with
          | true =>
            have HEA := Lib.hid (show request ⟨h, q⟩ l = ((⟨hs', qs'⟩ : St), (16 : Int)) from by rw [HE8.out]; unfold P46.ask; rw [if_neg HNB.out, if_pos hrs])
            have HRS := Lib.hid hrs
            clear hrs
            obtain ⟨hx90, -, -, -, -, -⟩ := lcells HK9.out.lk
            go_wp2_with (first | (refine wpList_load_cells rfl tS (.tmp 2) rfl ⟨p, 0, none⟩ rfl _ _ HK9.out.box.add Tryz.underlying53 rfl hlenS ?_) | (refine wpList_load_cells rfl 30 (.tmp 3) rfl ⟨g, 0, none⟩ rfl _ _ HK9.out.lk.add Tryz.underlying30 rfl hlenL ?_) | (go_at_call 101; refine (refReaches l.unit A3 A4 A9 n3 c3 n4 c4 nb c9 hs' qs' _ _ HS3''.out HS4''.out HBI.out HBN.out (by omega) (by omega) (by omega) HG8.out.ones).mono ?_; rintro e wa ⟨rfl, hba⟩; rw [HRS.out]; have HKa := Lib.hid (HK9.out.below hba); clear hba; have hr0 := HKa.out.res.cell 0; have hr1 := HKa.out.res.cell 1; have hf0 := HKa.out.res.frozen 0; have hf1 := HKa.out.res.frozen 1; have hrl := HKa.out.res.lt; simp at hr0 hr1) | (refine wpList_load_cells rfl tS (.tmp 2) rfl ⟨p, 0, none⟩ rfl _ _ HKa.out.box.add Tryz.underlying53 rfl hlenS ?_) | (refine wpList_load_cells rfl 30 (.tmp 3) rfl ⟨g, 0, none⟩ rfl _ _ HKa.out.lk.add Tryz.underlying30 rfl hlenL ?_))
            rw [HEA.out]
            exact bodyPost_ret (v := .tuple #[.agg #[.slice A3 n3 c3, .slice A4 n4 c4], .int .i64 16]) (by simp [results, Tryz.results68, go_sem, hr0, hr1]) rfl (HKa.out.end_ 16)
          | false =>
            have HEA := Lib.hid (show request ⟨h, q⟩ l = ((⟨hs', qs' ++ [l]⟩ : St), (15 : Int)) from by rw [HE8.out]; unfold P46.ask; rw [if_neg HNB.out, if_neg (by rw [hrs]; simp)])
            have HRS := Lib.hid hrs
            clear hrs
            obtain ⟨hx90, -, -, -, -, -⟩ := lcells HK9.out.lk
            go_upto_region 16 with (first | (refine wpList_load_cells rfl tS (.tmp 2) rfl ⟨p, 0, none⟩ rfl _ _ HK9.out.box.add Tryz.underlying53 rfl hlenS ?_) | (refine wpList_load_cells rfl 30 (.tmp 3) rfl ⟨g, 0, none⟩ rfl _ _ HK9.out.lk.add Tryz.underlying30 rfl hlenL ?_) | (go_at_call 101; refine (refReaches l.unit A3 A4 A9 n3 c3 n4 c4 nb c9 hs' qs' _ _ HS3''.out HS4''.out HBI.out HBN.out (by omega) (by omega) (by omega) HG8.out.ones).mono ?_; rintro e wa ⟨rfl, hba⟩; rw [HRS.out]; have HKa := Lib.hid (HK9.out.below hba); have HS4a := Lib.hid (HS4''.out.below hba); clear hba))
            have HSL := Lib.hid HS4a.out
            have HBL := Lib.hid HKa.out.lk
            have HC1 := Lib.hid (show wa.cell? ⟨p, 1, none⟩ = some (.slice A4 n4 c4) from by have := HKa.out.box.cell 1; simpa using this)
            have hn80 : n4 ≤ 80000 := by omega
            have hwz := HKa.out.low.size
            have hplz := HKa.out.box.lt
            have hrlz := HKa.out.res.lt
            refine wp_region_kill 6 8 (by kernel_rfl) (by kernel_rfl) (fun i => match i with | 0 => some 6 | 3 => some 6 | 5 => some 6 | _ => none) (RK wa.heap.size 6) (fun w1 => Below wa.heap.size wa w1)
              (fun i v w1 => match i with
                | 0 => EmptyAt w1 wa.heap.size 30 v
                | 1 => v = .pointer (some ⟨p, 1, none⟩)
                | 2 => v = .slice A4 n4 c4
                | 3 => RowAt w1 wa.heap.size 30 6 n4 (lcs qs') v
                | 4 => v = .agg (la l)
                | 5 => OneAt w1 30 (la l) v
                | 6 => RowAt w1 wa.heap.size 30 6 (n4 + 1) (lcs qs' ++ lc l) v
                | 7 => v = .pointer (some ⟨p, 1, none⟩)
                | _ => True) (fun _ _ _ h1 h2 => RK.keep h1 h2) ?_ ((Below.refl _ _).drew) ?_ ?_
            · intro kk ii vv w1 w2 hik hk hf hR
              match ii, hik, hk, hf with
              | 0, _, hk, hf => exact EmptyAt.below hf (RK.at_ hR (fun e => hk (by subst e; rfl)))
              | 1, _, _, hf => exact hf
              | 2, _, _, hf => exact hf
              | 3, _, hk, hf => exact RowAt.below hf (RK.at_ hR (fun e => hk (by subst e; rfl)))
              | 4, _, _, hf => exact hf
              | 5, _, hk, hf => exact OneAt.below hf (RK.at_ hR (fun e => hk (by subst e; rfl)))
              | 6, hik, _, hf => exact RowAt.below hf (RK.at_ hR (Ne.symm hik))
              | 7, _, _, hf => exact hf
              | n + 8, _, _, _ => trivial
            · refine allOps_cons ?_ (allOps_cons ?_ (allOps_cons ?_ (allOps_cons ?_ (allOps_cons ?_ (allOps_cons ?_ (allOps_cons ?_ (allOps_cons ?_ allOps_nil)))))))
              · intro u w1 hC hd K hK
                simp only [List.take_succ_cons, List.take_zero, putAll, Act.put, List.setIfInBounds_toArray, List.set_cons_succ, List.set_cons_zero, Nat.zero_add, Nat.reduceAdd] at hK ⊢
                go_simp
                exact hK _ _ (RK.below (below_alloc (Below.refl _ _) _) (by decide)) (EmptyAt.new _ _ hC.size)
              · intro u w1 hC hd K hK
                simp only [List.take_succ_cons, List.take_zero, putAll, Act.put, List.setIfInBounds_toArray, List.set_cons_succ, List.set_cons_zero, Nat.zero_add, Nat.reduceAdd] at hK ⊢
                go_simp
                exact hK _ _ (RK.same (by decide)) rfl
              · intro u w1 hC hd K hK
                have h1 : u 1 = .pointer (some ⟨p, 1, none⟩) := hd 1 rfl rfl
                have hc1 : w1.cell? ⟨p, 1, none⟩ = some (.slice A4 n4 c4) := by rw [hC.cell (p := ⟨p, 1, none⟩) (World.block_lt_of_cell? wa _ HC1.out)]; exact HC1.out
                simp only [List.take_succ_cons, List.take_zero, putAll, Act.put, List.setIfInBounds_toArray, List.set_cons_succ, List.set_cons_zero, Nat.zero_add, Nat.reduceAdd, h1] at hK ⊢
                go_simp
                exact hK _ _ (RK.same (by decide)) rfl
              · intro u w1 hC hd K hK
                have h2 : u 2 = .slice A4 n4 c4 := hd 2 rfl rfl
                obtain ⟨g0, hg0, hg1, hg2⟩ := hd 0 rfl rfl
                simp only [List.take_succ_cons, List.take_zero, putAll, Act.put, List.setIfInBounds_toArray, List.set_cons_succ, List.set_cons_zero, Nat.zero_add, Nat.reduceAdd, h2] at hK ⊢
                rw [if_pos (show Region.wanted _ _ = true from rfl)]
                refine wp_append_empty w1 (.tmp 61) (.tmp 63) 41 rfl 30 i0 _ 6 64 Tryz.underlying41 HI.out HZ0.out HZ1.out HZ2.out rfl (by omega) g0 wa.heap.size hg0 hg1 hg2 A4 n4 c4 _ rfl (HSL.out.below hC) (lcs_one _) (by unfold maxLen; omega) (by omega) ?_
                intro v' w2 hown2 hb2
                exact hK v' w2 (RK.below hb2 (by decide)) hown2
              · intro u w1 hC hd K hK
                simp only [List.take_succ_cons, List.take_zero, putAll, Act.put, List.setIfInBounds_toArray, List.set_cons_succ, List.set_cons_zero, Nat.zero_add, Nat.reduceAdd] at hK ⊢
                rw [if_pos (show Region.wanted _ _ = true from rfl)]
                exact wp_load_cells 30 (.tmp 3) rfl ⟨g, 0, none⟩ rfl (la l) _ ((HBL.out.below hC).add) Tryz.underlying30 rfl hlenL (hK _ _ (RK.same (by decide)) rfl)
              · intro u w1 hC hd K hK
                have h4 : u 4 = .agg (la l) := hd 4 rfl rfl
                simp only [List.take_succ_cons, List.take_zero, putAll, Act.put, List.setIfInBounds_toArray, List.set_cons_succ, List.set_cons_zero, Nat.zero_add, Nat.reduceAdd, h4] at hK ⊢
                unfold la at hK ⊢
                go_simp
                exact hK _ _ (RK.below (below_alloc (Below.refl _ _) _) (by decide)) (OneAt.new _ _ _)
              · intro u w1 hC hd K hK
                have h4 : RowAt w1 wa.heap.size 30 6 n4 (lcs qs') (u 3) := hd 3 rfl rfl
                obtain ⟨g1, hg0, hg1⟩ := hd 5 rfl rfl
                simp only [List.take_succ_cons, List.take_zero, putAll, Act.put, List.setIfInBounds_toArray, List.set_cons_succ, List.set_cons_zero, Nat.zero_add, Nat.reduceAdd] at hK ⊢
                rw [if_pos (show Region.wanted _ _ = true from rfl)]
                refine wp_append_own (.tmp 64) (.tmp 66) 41 rfl wa.heap.size 30 i0 _ 6 64 Tryz.underlying41 HI.out HZ0.out HZ1.out HZ2.out rfl (by omega) (u 3) n4 _ rfl h4 (some ⟨g1, 0, none⟩) 1 1 (lc l) hg0 (fun e => by cases e) (one_cells hg1) (lc_one _) (by unfold maxLen; omega) (by omega) hC.size ?_
                intro v' w2 hr hg
                exact hK v' w2 (RK.grown hg (row_base h4)) hr
              · intro u w1 hC hd K hK
                simp only [List.take_succ_cons, List.take_zero, putAll, Act.put, List.setIfInBounds_toArray, List.set_cons_succ, List.set_cons_zero, Nat.zero_add, Nat.reduceAdd] at hK ⊢
                go_simp
                exact hK _ _ (RK.same (by decide)) rfl
            · intro u wt hC hf
              have h6 : RowAt wt wa.heap.size 30 6 (n4 + 1) (lcs qs' ++ lc l) (u 6) := hf 6 (by omega) rfl
              have h7 : u 7 = .pointer (some ⟨p, 1, none⟩) := hf 7 (by omega) rfl
              have HC := Lib.hid hC
              have hls : (qs' ++ [l]).length = n4 + 1 := by rw [List.length_append, HSL.out.len]; rfl
              have HO10 := Lib.hid (OwnL.of_row (C := wa.heap.size) (ls := qs' ++ [l]) (by rw [lcs_append]; simpa [lcs] using h6) hls (Nat.le_refl _))
              have HK10 := Lib.hid (HKa.out.below HC.out)
              obtain ⟨A10, c10, hv10, -, -⟩ := HO10.out.cells
              rw [hls] at hv10
              simp only [List.take_succ_cons, List.take_zero, List.drop_succ_cons, List.drop_zero, putAll, Act.put, List.setIfInBounds_toArray, List.set_cons_succ, List.set_cons_zero, Nat.zero_add, Nat.reduceAdd, h7, hv10]
              have hfr := HK10.out.box.frozen 1
              have hcr := HK10.out.box.cell 1
              have hpl := HK10.out.box.lt
              simp at hcr
              have HKb := Lib.hid (HK10.out.putQ (SL.own HO10.out (fun b hb => ⟨HXX.out b (by omega), by omega, by omega⟩)))
              rw [hv10] at HKb
              clear hC hf h6 h7 hv10 HO10 hls
              go_upto_region 17 with (fail)
              generalize wt.setCell ⟨p, 1, none⟩ _ = w11 at HKb ⊢
              clear hfr hcr hpl HK10 HC
              have hr0 := HKb.out.res.cell 0
              have hr1 := HKb.out.res.cell 1
              have hf0 := HKb.out.res.frozen 0
              have hf1 := HKb.out.res.frozen 1
              have hrl := HKb.out.res.lt
              simp at hr0 hr1
              go_wp2_with (first | (refine wpList_load_cells rfl tS (.tmp 2) rfl ⟨p, 0, none⟩ rfl _ _ HKb.out.box.add Tryz.underlying53 rfl hlenS ?_) | (refine wpList_load_cells rfl 30 (.tmp 3) rfl ⟨g, 0, none⟩ rfl _ _ HKb.out.lk.add Tryz.underlying30 rfl hlenL ?_))
              rw [HEA.out]
              exact bodyPost_ret (v := .tuple #[.agg #[.slice A3 n3 c3, .slice A10 (n4 + 1) c10], .int .i64 15]) (by simp [results, Tryz.results68, go_sem, hr0, hr1]) rfl (HKb.out.end_ 15)
end Go.Proofs.YtjklhiifjnmedaaGreat
