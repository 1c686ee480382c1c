/- reaches' closure: the deep search among those that wait. -/
import Derived.Test.YtjklhiifjnmedaaGreatDoorLkWf
namespace Go.Proofs.YtjklhiifjnmedaaGreatDoor
open Go.RowKit P16 P46
attribute [local go_sem] ByteArray.mk_append_mk ByteArray.extract_mk mk_index

theorem grown_trans {w w1 w2 : World} {row : Option Nat} (a : w.grownBy w1 row) (b : w1.grownBy w2 row) : w.grownBy w2 row :=
  ⟨b.os.trans a.os, b.tape.trans a.tape, b.output.trans a.output, Nat.le_trans a.size b.size, fun k hk hne => (b.block k (Nat.lt_of_lt_of_le hk a.size) hne).trans (a.block k hk hne)⟩
theorem grown_new {w w1 w2 : World} {row : Option Nat} {r : Nat} (a : w.grownBy w1 row) (b : w1.grownBy w2 (some r)) (hr : w.heap.size ≤ r) : w.grownBy w2 row :=
  ⟨b.os.trans a.os, b.tape.trans a.tape, b.output.trans a.output, Nat.le_trans a.size b.size, fun k hk hne => (b.block k (Nat.lt_of_lt_of_le hk a.size) (by simp; omega)).trans (a.block k hk hne)⟩
theorem grown_below {w w1 w2 : World} {row : Option Nat} (a : w.grownBy w1 row) (b : Below w1.heap.size w1 w2) : w.grownBy w2 row :=
  ⟨b.os.trans a.os, b.tape.trans a.tape, b.output.trans a.output, Nat.le_trans a.size b.size, fun k hk hne => (b.block k (Nat.lt_of_lt_of_le hk a.size)).trans (a.block k hk hne)⟩
theorem grown_refl (w : World) (row : Option Nat) : w.grownBy w row := ⟨rfl, rfl, rfl, Nat.le_refl _, fun _ _ _ => rfl⟩
theorem Mgr.grown {w w' : World} {B p : Nat} {h q : List Lock} {vh vq : Value} {b : Nat} (m : Mgr w B p h q vh vq) (hg : w.grownBy w' (some b)) (h1 : b ≠ p) (h2 : vh.ownBlock ≠ some b) (h3 : vq.ownBlock ≠ some b) : Mgr w' B p h q vh vq :=
  ⟨m.box.grown hg (by simp; omega), m.base, m.held.kept hg (.inr h2), m.queue.kept hg (.inr h3), m.apart⟩
/-- The closure. -/
def vf (gu gs gm gv : Nat) : Value := .func (.func 97) #[] #[.pointer (some ⟨gu, 0, none⟩), .pointer (some ⟨gs, 0, none⟩), .pointer (some ⟨gm, 0, none⟩), .pointer (some ⟨gv, 0, none⟩)]
/-- What the search finds in memory. -/
structure VE (w : World) (B p : Nat) (h q : List Lock) (vh vq : Value) (gu gs gm gv bs : Nat) (unit : Int) : Prop where
  mgr : Mgr w B p h q vh vq
  cu : Blk w gu 3 #[.int .i64 unit]
  cs : Blk w gs 113 #[.map (some bs)]
  cm : Blk w gm 52 #[.pointer (some ⟨p, 0, none⟩)]
  cv : Blk w gv 58 #[vf gu gs gm gv]
  ne : bs ≠ p ∧ vh.ownBlock ≠ some bs ∧ vq.ownBlock ≠ some bs ∧ gu ≠ bs ∧ gs ≠ bs ∧ gm ≠ bs ∧ gv ≠ bs
theorem VE.grown {w w' : World} {B p : Nat} {h q : List Lock} {vh vq : Value} {gu gs gm gv bs : Nat} {unit : Int} (v : VE w B p h q vh vq gu gs gm gv bs unit) (hg : w.grownBy w' (some bs)) : VE w' B p h q vh vq gu gs gm gv bs unit := by
  obtain ⟨n1, n2, n3, n4, n5, n6, n7⟩ := v.ne
  exact ⟨v.mgr.grown hg n1 n2 n3, v.cu.grown hg (by simp; omega), v.cs.grown hg (by simp; omega), v.cm.grown hg (by simp; omega), v.cv.grown hg (by simp; omega), v.ne⟩
/-- What it leaves. -/
structure VOut (w w' : World) (bs : Nat) (us : List Int) (s : St) (unit : Int) (seen : List Int) (n : Int) (yes : Bool) (seen' : List Int) : Prop where
  set : SetM w' Tryz.prog 3 4 bs seen'.length (inL seen')
  nodup : seen'.Nodup
  us : ∀ x ∈ seen', x ∈ us
  grown : w.grownBy w' (some bs)
  found : P46.Found (blockers s) unit seen n yes seen'
  path : yes = true → Path (blockers s) n unit
def VPost (w : World) (bs : Nat) (us : List Int) (s : St) (unit : Int) (seen : List Int) (n : Int) (e : Ending) (w' : World) : Prop := ∃ yes seen', e = .returned (.bool yes) ∧ VOut w w' bs us s unit seen n yes seen'
abbrev unitsOf (s : St) : List Int := (s.h ++ s.q).map (·.unit)
theorem units_num {s : St} (v : Valids s) {n : Int} (h : n ∈ unitsOf s) : (Lit.int .i64 n).wf = true := by
  obtain ⟨l, hl, rfl⟩ := List.mem_map.1 h
  rcases List.mem_append.1 hl with hl | hl
  · exact lit_num (valid_num (v.1 l hl))
  · exact lit_num (valid_num (v.2 l hl))
theorem blks_units {s : St} {pre : List Lock} {l : Lock} (hp : ∀ y ∈ pre, y ∈ s.q) {v : Int} (h : v ∈ blks s.h pre l) : v ∈ unitsOf s := by
  rcases mem_blks.1 h with ⟨y, hy, rfl, _⟩ | ⟨y, hy, rfl, _⟩
  · exact List.mem_map.2 ⟨y, List.mem_append_left _ hy, rfl⟩
  · exact List.mem_map.2 ⟨y, List.mem_append_right _ (hp y hy), rfl⟩
theorem inL_true {l : List Int} {a : Int} (h : a ∈ l) : inL l a = true := by unfold inL; simpa using h
theorem inL_false {l : List Int} {a : Int} (h : a ∉ l) : inL l a = false := by unfold inL; simpa using h
theorem blockers_none {s : St} {u : Int} (h : idx s.q u = none) : blockers s u = [] := by unfold blockers; rw [h]
theorem blockers_some {s : St} {u : Int} {i : Nat} {l : Lock} (h : idx s.q u = some i) (hl : s.q[i]? = some l) : blockers s u = blks s.h (s.q.take i) l := by
  unfold blockers
  rw [h]
  dsimp only
  rw [hl]
theorem nodup_snoc {l : List Int} {n : Int} (h : l.Nodup) (hn : n ∉ l) : (l ++ [n]).Nodup := by
  rw [List.nodup_append]
  exact ⟨h, by simp, fun a ha b hb e => by
    simp at hb
    subst e hb
    exact hn ha⟩
theorem SetR.sub {w : World} {P : Program} {kt et : TypeId} {b r n : Nat} {S left : Int → Bool} {cnt : Nat} (h : SetR w P kt et b r n S left cnt) {a : Int} (ha : left a = true) : S a = true := by
  obtain ⟨D, lf, _, _, _, _, h5⟩ := h.own
  exact h5 a ha
/-- The loop over those for whom n waits. -/
structure VLoop (w wr : World) (bs bm r km : Nat) (us : List Int) (s : St) (unit : Int) (seen : List Int) (n : Int) (sr : List Int) (left : Int → Bool) (cnt : Nat) : Prop where
  rng : SetR wr Tryz.prog 3 4 bm r km (inL (blockers s n)) left cnt
  set : SetM wr Tryz.prog 3 4 bs sr.length (inL sr)
  nodup : sr.Nodup
  us : ∀ x ∈ sr, x ∈ us
  sup : ∀ x ∈ seen ++ [n], x ∈ sr
  grown : w.grownBy wr (some bs)
  done : ∀ y ∈ blockers s n, left y = false → y ∈ sr
  closed : ∀ x ∈ sr, x ∈ seen ∨ x = n ∨ (x ≠ unit ∧ ∀ y ∈ blockers s x, y ∈ sr)
theorem VLoop.no {w wr : World} {bs bm r km : Nat} {us : List Int} {s : St} {unit : Int} {seen : List Int} {n : Int} {sr : List Int} {left : Int → Bool} {cnt : Nat} (v : VLoop w wr bs bm r km us s unit seen n sr left cnt) (hl : ∀ x, left x = false) (hun : n ≠ unit) : VOut w wr bs us s unit seen n false sr :=
  ⟨v.set, v.nodup, v.us, v.grown, ⟨fun x hx => v.sup x (by simp [hx]), fun _ => ⟨v.sup n (by simp), fun x hx => by
    rcases v.closed x hx with h | rfl | h
    · exact .inl h
    · exact .inr ⟨hun, fun y hy => v.done y hy (hl y)⟩
    · exact .inr h⟩⟩, fun h => by cases h⟩
theorem VLoop.yes {w wr w5 w6 : World} {bs bm r km : Nat} {us : List Int} {s : St} {unit : Int} {seen : List Int} {n : Int} {sr sr' : List Int} {left : Int → Bool} {cnt : Nat} {x : Int} (v : VLoop w wr bs bm r km us s unit seen n sr left cnt) (hx : left x = true) (hg : w.grownBy w5 (some bs)) (o : VOut w5 w6 bs us s unit sr x true sr') : VOut w w6 bs us s unit seen n true sr' :=
  ⟨o.set, o.nodup, o.us, grown_trans hg o.grown, ⟨fun y hy => o.found.sub y (v.sup y (by simp [hy])), fun h => by cases h⟩, fun _ => .step (by
    have := v.rng.sub hx
    unfold inL at this
    simpa using this) (o.path rfl)⟩
theorem VLoop.more {w wr w5 w6 : World} {bs bm r km : Nat} {us : List Int} {s : St} {unit : Int} {seen : List Int} {n : Int} {sr sr' : List Int} {left : Int → Bool} {cnt cnt' : Nat} {x : Int} (v : VLoop w wr bs bm r km us s unit seen n sr left cnt) (hr : SetR w5 Tryz.prog 3 4 bm r km (inL (blockers s n)) (fun y => left y && decide (y ≠ x)) cnt') (hg : w.grownBy w5 (some bs)) (o : VOut w5 w6 bs us s unit sr x false sr') (h1 : bm ≠ bs) (h2 : r ≠ bs) :
    VLoop w w6 bs bm r km us s unit seen n sr' (fun y => left y && decide (y ≠ x)) cnt' := by
  obtain ⟨hx, hcl⟩ := o.found.no rfl
  refine ⟨hr.kept o.grown (by simp; omega) (by simp; omega), o.set, o.nodup, o.us, fun y hy => o.found.sub y (v.sup y hy), grown_trans hg o.grown, fun y hy hl => ?_, fun y hy => ?_⟩
  · by_cases hyx : y = x
    · rw [hyx]; exact hx
    · refine o.found.sub y (v.done y hy ?_)
      simpa [hyx] using hl
  · rcases hcl y hy with h | h
    · rcases v.closed y h with h3 | h3 | h3
      · exact .inl h3
      · exact .inr (.inl h3)
      · exact .inr (.inr ⟨h3.1, fun z hz => o.found.sub z (h3.2 z hz)⟩)
    · exact .inr (.inr h)
set_option maxRecDepth 100000 in
set_option maxHeartbeats 2000000 in
theorem lkVisit (B p : Nat) (h q : List Lock) (vh vq : Value) (gu gs gm gv bs : Nat) (unit : Int) (hh : h.length ≤ 1000000) (hq : q.length ≤ 1000000) (hv : Valids ⟨h, q⟩) (M : Nat) : ∀ (n : Int) (seen : List Int) (w : World), VE w B p h q vh vq gu gs gm gv bs unit → SetM w Tryz.prog 3 4 bs seen.length (inL seen) → seen.Nodup → (∀ x ∈ seen, x ∈ unitsOf ⟨h, q⟩) → n ∈ unitsOf ⟨h, q⟩ → (unitsOf ⟨h, q⟩).length ≤ seen.length + M →
    Calls Tryz.prog 97 #[.int .i64 n, .pointer (some ⟨gu, 0, none⟩), .pointer (some ⟨gs, 0, none⟩), .pointer (some ⟨gm, 0, none⟩), .pointer (some ⟨gv, 0, none⟩)] w (VPost w bs (unitsOf ⟨h, q⟩) ⟨h, q⟩ unit seen n) := by
  induction M using Nat.strongRecOn with
  | _ M ih =>
    intro n seen w hve hset hnd hsu hnu hM
    have HVE := Lib.hid hve
    have HSET := Lib.hid hset
    have HND := Lib.hid hnd
    have HSU := Lib.hid hsu
    have HNU := Lib.hid hnu
    have HM := Lib.hid hM
    have HIH := Lib.hid ih
    have HHH := Lib.hid hh
    have HQQ := Lib.hid hq
    have HVV := Lib.hid hv
    have hw := units_num hv hnu
    have c1 := hve.cu.cell 0
    have c2 := hve.cs.cell 0
    simp at c1 c2
    clear hve hset hnd hsu hnu hM ih hh hq hv
    by_cases hun : n = unit
    · subst hun
      go_enter Tryz.func97, Tryz.ntmps97
      go_wp2
      go_ret
      exact ⟨true, seen, rfl, HSET.out, HND.out, HSU.out, grown_refl _ _, ⟨fun _ h => h, fun h => by cases h⟩, fun _ => .refl _⟩
    · have hb1 : (n == unit) = false := by simpa using hun
      by_cases hs : n ∈ seen
      · have hin := inL_true hs
        have HS := Lib.hid hs
        clear hs
        go_enter Tryz.func97, Tryz.ntmps97
        go_wp2_with (refine wpList_set_look rfl (.tmp 11) (.tmp 12) _ rfl Tryz.underlying113 Tryz.underlying3 Tryz.underlying4 rfl rfl HSET.out n hw rfl ?_; rw [hin])
        go_ret
        exact ⟨false, seen, rfl, HSET.out, HND.out, HSU.out, grown_refl _ _, ⟨fun _ h => h, fun _ => ⟨HS.out, fun x hx => .inl hx⟩⟩, fun h => by cases h⟩
      · have hin := inL_false hs
        have HS := Lib.hid hs
        have hlen : seen.length < 10000000 := by
          have := nodup_len seen _ HND.out HSU.out
          have h1 := HHH.out
          have h2 := HQQ.out
          simp [unitsOf] at this
          omega
        clear hs
        go_enter Tryz.func97, Tryz.ntmps97
        go_upto_region 6 with (first | (refine wpList_set_look rfl (.tmp 11) (.tmp 12) _ rfl Tryz.underlying113 Tryz.underlying3 Tryz.underlying4 rfl rfl HSET.out n hw rfl ?_; rw [hin]) | (refine wpList_set_add rfl (.tmp 14) (.tmp 15) _ _ rfl Tryz.underlying113 Tryz.underlying3 Tryz.underlying4 rfl HSET.out (by unfold maxLen; omega) n hw rfl rfl ?_; intro w2 hs2 hg2))
        rw [← inL_snoc] at hs2
        have HS2 := Lib.hid hs2
        have HG2 := Lib.hid hg2
        have HV2 := Lib.hid (HVE.out.grown hg2)
        have c3 := HV2.out.cm.cell 0
        simp at c3
        clear hs2 hg2 c1 c2
        cases hi : idx q n with
        | none =>
          have HI := Lib.hid hi
          clear hi
          go_wp2_with fail
          refine (lkWaitsFor_none n B p h q vh vq _ HV2.out.mgr HQQ.out HI.out).mono ?_
          rintro e w3 ⟨rfl, hb3⟩
          have HB3 := Lib.hid hb3
          clear hb3
          have hrg := run_range_nilMap (P := Tryz.prog) w3 113 3 4 Tryz.underlying113
          have hnx : ∀ ty, (Instr.next (.pointer (some ⟨w3.heap.size, 0, none⟩)) false ty).run Tryz.prog (w3.alloc (.mapIter none 0 #[] 0)) = _ := fun ty => run_next_nilMap w3 ty 0 0 #[]
          go_wp2
          refine wp_loop_rounds 1 ?_
          rw [rounds_succ]
          go_wp2
          go_ret
          have hg3 := grown_below HG2.out HB3.out
          have hg4 : w.grownBy (w3.alloc (.mapIter none 0 #[] 0)) (some bs) := grown_below hg3 (below_alloc (Below.refl _ _) _)
          refine ⟨false, seen ++ [n], rfl, ?_, nodup_snoc HND.out HS.out, ?_, hg4, ⟨fun x hx => by simp [hx], fun _ => ⟨by simp, fun x hx => ?_⟩⟩, fun h => by cases h⟩
          · rw [List.length_append]
            exact (HS2.out.below HB3.out).alloc _
          · intro x hx
            rcases List.mem_append.1 hx with hx | hx
            · exact HSU.out x hx
            · rw [List.mem_singleton.1 hx]
              exact HNU.out
          · rcases List.mem_append.1 hx with hx | hx
            · exact .inl hx
            · rw [List.mem_singleton.1 hx]
              refine .inr ⟨hun, fun y hy => ?_⟩
              rw [blockers_none HI.out] at hy
              cases hy
        | some i =>
          obtain ⟨l, hl, -⟩ := idx_some hi
          have HI := Lib.hid hi
          have HL := Lib.hid hl
          have HBL := Lib.hid (blockers_some (s := ⟨h, q⟩) hi hl)
          clear hi hl
          go_wp2_with fail
          refine (lkWaitsFor_some n B p h q vh vq _ HV2.out.mgr HHH.out HQQ.out HVV.out i l HI.out HL.out).mono ?_
          rintro e w3 ⟨bm, km, rfl, hs3, hkm, hlo, hb3⟩
          rw [← HBL.out] at hs3
          have hbs : bs < w2.heap.size := HS2.out.lt
          have hwz : w.heap.size ≤ w2.heap.size := HG2.out.size
          have HS3 := Lib.hid hs3
          have HG3 := Lib.hid (grown_below HG2.out hb3)
          have HSE3 := Lib.hid (HS2.out.below hb3)
          clear hs3 hb3
          go_wp2_with (at_range; refine wpList_set_range rfl (.tmp 18) _ rfl Tryz.underlying113 Tryz.underlying3 rfl HS3.out ?_; intro w4 cnt hr4 hg4 hz4)
          go_frame
          have hrs : w2.heap.size ≤ w3.heap.size := Nat.le_trans hlo (Nat.le_of_lt HS3.out.lt)
          have HL0 := Lib.hid (show VLoop w w4 bs bm w3.heap.size km (unitsOf ⟨h, q⟩) ⟨h, q⟩ unit seen n (seen ++ [n]) (inL (blockers ⟨h, q⟩ n)) cnt from by
            refine ⟨hr4, ?_, nodup_snoc HND.out HS.out, ?_, fun x hx => hx, ⟨hg4.os.trans HG3.out.os, hg4.tape.trans HG3.out.tape, hg4.output.trans HG3.out.output, Nat.le_trans HG3.out.size hg4.size, fun k hk hne => (hg4.block k (Nat.lt_of_lt_of_le hk HG3.out.size) (by simp)).trans (HG3.out.block k hk hne)⟩, ?_, ?_⟩
            · rw [List.length_append]
              exact HSE3.out.kept hg4 (by simp)
            · intro x hx
              rcases List.mem_append.1 hx with hx | hx
              · exact HSU.out x hx
              · rw [List.mem_singleton.1 hx]
                exact HNU.out
            · intro y hy hl
              unfold inL at hl
              simp at hl
              exact absurd hy hl
            · intro x hx
              rcases List.mem_append.1 hx with hx | hx
              · exact .inl hx
              · exact .inr (.inl (List.mem_singleton.1 hx)))
          clear hr4 hg4 hz4 c3
          generalize w3.heap.size = r at hrs HL0 ⊢
          go_loopw [7] (fun _ wr => ∃ sr left cnt, VLoop w wr bs bm r km (unitsOf ⟨h, q⟩) ⟨h, q⟩ unit seen n sr left cnt) (fun _ wr => wr.rangeLeft bm r)
          case atStart => exact ⟨_, _, _, HL0.out⟩
          case round =>
            obtain ⟨sr, left, cnt, hv⟩ := hrel
            have HV := Lib.hid hv
            clear hv
            go_wp2_with (at_next; refine wpList_set_next rfl (.tmp 19) rfl Tryz.underlying3 Tryz.underlying4 rfl HV.out.rng ?_ ?_; intro hdone; have HD := Lib.hid hdone; clear hdone; rotate_left 1; intro x w5 cnt5 hwx hlx hr5 hc5 hg5 hz5 hen; have HG5 := Lib.hid (grown_new HV.out.grown hg5 (by omega)); have c4 := (HVE.out.grown HG5.out).cv.cell 0; simp [vf] at c4; have HR5 := Lib.hid hr5; have HX := Lib.hid hlx; have HC5 := Lib.hid hc5; have HS5 := Lib.hid (HV.out.set.kept hg5 (by simp; omega)); clear hr5 hlx hc5 hg5 hz5; rotate_left 1)
            · go_ret
              exact ⟨false, sr, rfl, HV.out.no HD.out hun⟩
            · have hmem : x ∈ blockers ⟨h, q⟩ n := by
                have := HV.out.rng.sub HX.out
                unfold inL at this
                simpa using this
              have hxu : x ∈ unitsOf ⟨h, q⟩ := by
                rw [HBL.out] at hmem
                exact blks_units (s := ⟨h, q⟩) (fun y hy => List.mem_of_mem_take hy) hmem
              have hl1 := nodup_len _ _ (nodup_snoc HND.out HS.out) HV.out.sup
              have hl2 := nodup_len _ _ HV.out.nodup HV.out.us
              have hM := HM.out
              rw [List.length_append, List.length_singleton] at hl1
              refine (HIH.out (M - 1) (by omega) x sr w5 (HVE.out.grown HG5.out) HS5.out HV.out.nodup HV.out.us hxu (by omega)).mono ?_
              rintro e w6 ⟨yes, sr', rfl, ho⟩
              have HO := Lib.hid ho
              clear ho hmem hxu hl1 hl2 hM c4 hen
              cases yes with
              | true =>
                go_wp2
                go_ret
                exact ⟨true, sr', rfl, HV.out.yes HX.out HG5.out HO.out⟩
              | false =>
                have HN := Lib.hid (HV.out.more HR5.out HG5.out HO.out (by omega) (by omega))
                go_wp2
                go_roundw
                case rel => exact ⟨_, _, _, HN.out⟩
                case measure =>
                  rw [HN.out.rng.count, HV.out.rng.count]
                  exact HC5.out
end Go.Proofs.YtjklhiifjnmedaaGreatDoor
