/- Request: the walk. -/
import Derived.Test.YtjklhiifjnmedaaGreatDoorLkReq
import Derived.Test.YtjklhiifjnmedaaGreatDoorNmI
import Derived.Test.YtjklhiifjnmedaaGreatDoorNmG
namespace Go.Proofs.YtjklhiifjnmedaaGreatDoor
open Go.RowKit P43
attribute [local go_sem] ByteArray.mk_append_mk ByteArray.extract_mk mk_index

theorem lk_eq_val (ns : List (Nm × Bool)) (s : Nm) : lk ns s = val ns s := rfl
theorem lk_isSome {ns : List (Nm × Bool)} {s : Nm} : (lk ns s).isSome = true ↔ s ∈ names ns := by
  constructor
  · intro h
    obtain ⟨x, hx⟩ := Option.isSome_iff_exists.1 h
    exact List.mem_map.2 ⟨(s, x), lk_mem hx, rfl⟩
  · intro h
    obtain ⟨p, hp, e⟩ := List.mem_map.1 h
    unfold lk
    rw [Option.isSome_map]
    rw [List.find?_isSome]
    exact ⟨p, hp, by simpa using e⟩
theorem lk_snoc {ns : List (Nm × Bool)} {p : Nm × Bool} (h : p.1 ∉ names ns) : lk (ns ++ [p]) = putN (lk ns) p.1 p.2 := by
  funext s
  unfold putN
  by_cases e : s = p.1
  · subst e
    rw [if_pos rfl]
    have hn : (lk ns p.1) = none := by
      cases hl : lk ns p.1 with
      | none => rfl
      | some x => exact absurd (lk_isSome.1 (by rw [hl]; rfl)) h
    unfold lk at hn ⊢
    rw [List.find?_append]
    rw [Option.map_eq_none_iff] at hn
    rw [hn]
    simp
  · rw [if_neg e]
    unfold lk
    rw [List.find?_append]
    cases hf : ns.find? fun q => decide (q.1 = s) with
    | none => simp [show ¬ p.1 = s from fun h => e h.symm]
    | some q => simp
theorem lk_perm {a b : List (Nm × Bool)} (hp : a.Perm b) (hk : Keys a) : lk a = lk b := by
  have hkb : Keys b := ((hp.map (Prod.fst (α := Nm) (β := Bool))).nodup_iff).1 hk
  funext s
  cases h : lk a s with
  | some x => exact ((lk_some hkb).2 (hp.subset ((lk_some hk).1 h))).symm
  | none =>
    cases h2 : lk b s with
    | none => rfl
    | some x =>
      rw [(lk_some hk).2 (hp.symm.subset ((lk_some hkb).1 h2))] at h
      cases h
theorem Claims.add {w : World} {B : Nat} {l : List Cm} {x : Cm} (c : Claims w B l) (hx : NsAt w x) (hlo : B ≤ x.2) (hne : ∀ y ∈ l, y.2 ≠ x.2) : Claims w B (l ++ [x]) := by
  refine ⟨fun y hy => ?_, fun y hy => ?_, ?_⟩
  · rcases List.mem_append.1 hy with h | h
    · exact c.ns y h
    · rw [List.mem_singleton.1 h]; exact hx
  · rcases List.mem_append.1 hy with h | h
    · exact c.lo y h
    · rw [List.mem_singleton.1 h]; exact hlo
  · rw [List.map_append, List.nodup_append]
    refine ⟨c.nd, by simp, fun a ha b hb e => ?_⟩
    obtain ⟨y, hy, rfl⟩ := List.mem_map.1 ha
    simp at hb
    exact hne y hy (e.trans hb)
theorem TPost.same {F : Nat → Prop} {w w' : World} {B p : Nat} {t : T} {R : Ending → World → Prop} {e : Ending} (m : TT w B p t F) (hb : Below w.heap.size w w') (hR : R e w') : TPost F w B p t R e w' := ⟨hR, F, m.below hb, Chg.of_below hb⟩
theorem req_bad {vb : Nm → Bool} {t : T} {o : Int} {l : List (Nm × Bool)} (h : (decide (1 ≤ o ∧ o ≤ 1099511627776) && wishB vb l) = false) : requestP vb t o l = (t, false, 1) := by
  unfold requestP
  rw [if_pos h]
theorem wish_dup {vb : Nm → Bool} {l : List (Nm × Bool)} {k : Nat} {q : Nm × Bool} (hl : l[k]? = some q) (h : q.1 ∈ names (l.take k)) : wishB vb l = false := by
  have hn : ¬ (names l).Nodup := by
    intro hn
    have e : l = l.take k ++ q :: l.drop (k + 1) := by
      have := List.take_append_drop k l
      rw [← this]
      congr 1
      · rw [List.take_append_drop]
      · rw [List.take_append_drop]
        exact (List.drop_eq_getElem_cons (List.getElem?_eq_some_iff.1 hl).1).trans (by rw [(List.getElem?_eq_some_iff.1 hl).2])
    rw [e] at hn
    unfold names at hn h
    rw [List.map_append, List.nodup_append] at hn
    exact hn.2.2 _ h q.1 (by simp) rfl
  unfold wishB
  simp [hn]
theorem wish_inv {vb : Nm → Bool} {l : List (Nm × Bool)} {q : Nm × Bool} (hl : q ∈ l) (h : vb q.1 = false) : wishB vb l = false := by
  unfold wishB
  have : (l.all fun p => vb p.1) = false := by
    rw [List.all_eq_false]
    exact ⟨q, hl, by simp [h]⟩
  rw [this, Bool.and_false]
theorem wish_ok {vb : Nm → Bool} {l : List (Nm × Bool)} (h1 : l.length ≤ 256) (h2 : (names l).Nodup) (h3 : (l.all fun p => vb p.1) = true) : wishB vb l = true := by
  unfold wishB
  simp only [h1, h2, h3, decide_true, Bool.and_self]
theorem inT_fst {hs ws : List Cm} {o : Int} : inT (fstT hs ws) o = ((hs.any fun l => decide (l.1.id = o)) || ws.any fun l => decide (l.1.id = o)) := by
  rw [Bool.eq_iff_iff]
  unfold inT
  rw [decide_eq_true_iff, Bool.or_eq_true, List.any_eq_true, List.any_eq_true]
  constructor
  · intro h
    obtain ⟨c, hc, rfl⟩ := List.mem_map.1 h
    rcases List.mem_append.1 hc with h1 | h1
    · obtain ⟨x, hx, rfl⟩ := List.mem_map.1 h1
      exact .inl ⟨x, hx, by simp⟩
    · obtain ⟨x, hx, rfl⟩ := List.mem_map.1 h1
      exact .inr ⟨x, hx, by simp⟩
  · rintro (⟨x, hx, e⟩ | ⟨x, hx, e⟩)
    · exact List.mem_map.2 ⟨x.1, List.mem_append_left _ (List.mem_map.2 ⟨x, hx, rfl⟩), by simpa using e⟩
    · exact List.mem_map.2 ⟨x.1, List.mem_append_right _ (List.mem_map.2 ⟨x, hx, rfl⟩), by simpa using e⟩
theorem blkC_all {hs ws : List Cm} {x : Cm} : blkC hs x ++ blkC ws x = [] ↔ blk ((fstT hs ws).hs ++ (fstT hs ws).ws) x.1 = [] := by
  rw [← blkC_append, blkC_nil, List.map_append]
  rfl
theorem Tbl.join0 {w wx : World} {B p : Nat} {hs ws : List Cm} {vh vw v : Value} {x : Cm} (m : Tbl w B p hs ws vh vw) (hx : NsAt w x) (hlo : B ≤ x.2) (hne : ∀ y ∈ hs ++ ws, y.2 ≠ x.2) (m' : Tab wx B p (hs ++ [x]) ws v vw) (mv : MovedT p NoM w wx) : Tbl wx B p (hs ++ [x]) ws v vw := by
  refine ⟨m', ?_⟩
  have h := (m.maps.add hx hlo hne).movedT m.toTab mv (fun _ _ h => h)
  refine h.perm ?_
  rw [List.append_assoc, List.append_assoc]
  exact List.Perm.append_left hs List.perm_append_comm
theorem Tbl.join1 {w wx : World} {B p : Nat} {hs ws : List Cm} {vh vw v : Value} {x : Cm} (m : Tbl w B p hs ws vh vw) (hx : NsAt w x) (hlo : B ≤ x.2) (hne : ∀ y ∈ hs ++ ws, y.2 ≠ x.2) (m' : Tab wx B p hs (ws ++ [x]) vh v) (mv : MovedT p NoM w wx) : Tbl wx B p hs (ws ++ [x]) vh v := by
  refine ⟨m', ?_⟩
  have h := (m.maps.add hx hlo hne).movedT m.toTab mv (fun _ _ h => h)
  rwa [List.append_assoc] at h
theorem req_done {F : Nat → Prop} {w w8 wx : World} {B p : Nat} {hs ws hs' ws' : List Cm} {vh vw v1 v2 : Value} {x : Cm} {r : T × Bool × Int} {e : Ending} (mT : Tbl w B p hs ws vh vw) (hF : ∀ k, F k ↔ (FootT w p k ∨ ∃ x ∈ hs ++ ws, x.2 = k)) (h8 : Below w.heap.size w w8) (mv : MovedT p NoM w8 wx) (m' : Tbl wx B p hs' ws' v1 v2)
    (hx : ∀ y ∈ hs' ++ ws', y ∈ hs ++ ws ∨ y = x) (hxl : w.heap.size ≤ x.2) (hr : r.1 = fstT hs' ws') (he : e = .returned (.tuple #[.bool r.2.1, .int .i64 r.2.2])) : TPost F w B p r.1 (fun e _ => e = .returned (.tuple #[.bool r.2.1, .int .i64 r.2.2])) e wx := by
  refine ⟨he, ?_⟩
  rw [hr]
  refine TT.of_moved hF m' ((MovedT.of_below h8 mT.box.lt).trans mv) (fun _ h => h.elim) (fun y hy => ?_)
  rcases hx y hy with h | rfl
  · exact .inl ⟨y, h, rfl⟩
  · exact .inr hxl
/-- What Request leaves. -/
def RPostT (F : Nat → Prop) (w : World) (B p : Nat) (r : T × Bool × Int) : Ending → World → Prop := TPost F w B p r.1 fun e _ => e = .returned (.tuple #[.bool r.2.1, .int .i64 r.2.2])
set_option maxRecDepth 100000 in
set_option maxHeartbeats 4000000 in
theorem clRequest (B p : Nat) (t : T) (F : Nat → Prop) (o : Int) (A : Option Addr) (n c : Nat) (l : List (Nm × Bool)) (w : World) (m : TT w B p t F) (hG : GlobM w) (hl : t.hs.length + t.ws.length ≤ 100000) (hn : NlsAt w A n l) (hn0 : n ≤ 1000000) (hq : ∀ q ∈ l, q.1.length ≤ 1000) :
    Calls Tryz.prog 9 #[.pointer (some ⟨p, 0, none⟩), .int .i64 o, .slice A n c] w (RPostT F w B p (requestP validB t o l)) := by
  by_cases hbad : o < 1 ∨ 1099511627776 < o ∨ 256 < n
  · have HR := Lib.hid (show requestP validB t o l = (t, false, 1) from req_bad (by
      have hln := hn.len
      by_cases h : 1 ≤ o ∧ o ≤ 1099511627776
      · have : ¬ l.length ≤ 256 := by omega
        simp [wishB, this]
      · simp [h]))
    have HM := Lib.hid m
    clear m hn hq hG hl
    by_cases h1 : o < 1
    · go_enter Tryz.func9, Tryz.ntmps9
      go_wp2
      go_ret2
      rw [HR.out]
      exact TPost.same HM.out (Below.refl _ _) rfl
    · by_cases h2 : 1099511627776 < o
      · go_enter Tryz.func9, Tryz.ntmps9
        go_wp2
        go_ret2
        rw [HR.out]
        exact TPost.same HM.out (Below.refl _ _) rfl
      · have h3 : (256 : Int) < (n : Int) := by omega
        go_enter Tryz.func9, Tryz.ntmps9
        go_wp2
        go_ret2
        rw [HR.out]
        exact TPost.same HM.out (Below.refl _ _) rfl
  · have ho1 : ¬ o < 1 := by omega
    have ho2 : ¬ 1099511627776 < o := by omega
    have ho3 : ¬ (256 : Int) < (n : Int) := by omega
    have hn1 : n ≤ 256 := by omega
    have HN := Lib.hid hn
    have HQ := Lib.hid hq
    have HG := Lib.hid hG
    have HM := Lib.hid m
    clear hbad hn hq hG m
    have hmm := @run_makeMap Tryz.prog
    go_enter Tryz.func9, Tryz.ntmps9
    go_wp2
    clear hmm
    obtain ⟨w1, mb, g, e1, e2, e3, hm1, hB1, hb1⟩ : ∃ (w1 : World) (mb g : Nat), (w.alloc (.map #[] 0)).alloc (.cells #[.int .i64 o, .map (some w.heap.size)] tC) = w1 ∧ w.heap.size = mb ∧ w.heap.size + 1 = g ∧ NMap w1 Tryz.prog 9 4 mb 0 (fun _ => none) ∧ Blk w1 g tC #[.int .i64 o, .map (some mb)] ∧ Below w.heap.size w w1 :=
      ⟨_, _, _, rfl, rfl, rfl, (NMap.made w _ _ _).alloc _, by have := Blk.new (w.alloc (.map #[] 0)) tC #[.int .i64 o, .map (some w.heap.size)]; rwa [World.size_alloc] at this, below_alloc (below_alloc (Below.refl _ w) _) _⟩
    rw [show (w.alloc (.map #[] 0)).alloc (.cells #[.int .i64 o, .map (some w.heap.size)] 61) = w1 from e1, e3, e2]
    have HME := Lib.hid e2
    have HGE := Lib.hid e3
    have HM1 := Lib.hid hm1
    have HB1 := Lib.hid hB1
    have HBW := Lib.hid hb1
    have hz : ∀ w, (zeroValue 4).run Tryz.prog w = .ok (.bool false) w := fun w => by kernel_rfl
    clear e1 e2 e3 hm1 hB1 hb1
    go_loopw [29] (fun i wr => ∃ k : Nat, k ≤ n ∧ i = .int .i64 k ∧ NMap wr Tryz.prog 9 4 mb k (lk (l.take k)) ∧ Blk wr g tC #[.int .i64 o, .map (some mb)] ∧ Below w.heap.size w wr ∧ Hid (names (l.take k)).Nodup ∧ Hid (((l.take k).all fun q => validB q.1) = true)) (fun i _ => n - (intOf i).toNat)
    case atStart => exact ⟨0, Nat.zero_le _, rfl, HM1.out, HB1.out, HBW.out, Lib.hid (by simp [names]), Lib.hid rfl⟩
    case round =>
      obtain ⟨k, hk, rfl, hmw, hbw, hww, hnd, hva⟩ := hrel
      have HMW := Lib.hid hmw
      have HBL := Lib.hid hbw
      have HWW := Lib.hid hww
      clear hmw hbw hww
      by_cases hlt : k < n
      · obtain ⟨b, off, q, rfl, hlq, x0, x1⟩ := (NlsAt.below HN.out HWW.out).at_ hlt
        have HLQ := Lib.hid hlq
        have hk1 : (k : Int) < (n : Int) := by omega
        have hk2 : (0 : Int) ≤ (k : Int) := by omega
        have hq1 := HQ.out q (List.mem_of_getElem? hlq)
        clear hlq
        go_upto_region 7 with (fail)
        obtain ⟨w2, r, f1, f2, hb2, hr⟩ := boxes1 wr 31 (na q)
        unfold na at f1
        rw [f1, f2]
        have HB2 := Lib.hid (HBL.out.below hb2)
        have HM2 := Lib.hid (HMW.out.below hb2)
        have HW2 := Lib.hid (HWW.out.trans (hb2.mono HWW.out.size))
        have h0 := hr.cell 0
        have h1 := hr.cell 1
        simp [na] at h0 h1
        have g1 := HB2.out.cell 1
        simp at g1
        have HR := Lib.hid hr
        clear f1 f2 hb2 hr x0 x1
        have hlq2 : q.1.length ≤ maxLen := by unfold maxLen; omega
        have HL2 := Lib.hid hlq2
        have HV := Lib.hid (dsValid q.1 w2 (by omega) (HG.out.below HW2.out))
        have HMB := Lib.hid (show mb < w2.heap.size from HM2.out.lt)
        clear hlq2
        have HWO : o ∉ ([] : List Int) := by simp
        clear HWO
        by_cases hin : q.1 ∈ names (l.take k)
        · obtain ⟨y, hy⟩ := Option.isSome_iff_exists.1 (lk_isSome.2 hin)
          have HY := Lib.hid hy
          have HIN := Lib.hid hin
          clear hy hin HV
          go_wp2_with (refine wpList_nm_ok rfl (.tmp 35) (.tmp 37) _ rfl Tryz.underlying59 Tryz.underlying9 Tryz.underlying4 (hz _) rfl HM2.out q.1 HL2.out rfl ?_; rw [HY.out]; simp only [Option.getD_some, Option.isSome_some])
          go_ret2
          have e := req_bad (vb := validB) (t := t) (o := o) (l := l) (by rw [wish_dup HLQ.out HIN.out, Bool.and_false])
          rw [e]
          exact TPost.same HM.out HW2.out rfl
        · have hy : lk (l.take k) q.1 = none := by
            cases h : lk (l.take k) q.1 with
            | none => rfl
            | some y => exact absurd (lk_isSome.1 (by rw [h]; rfl)) hin
          have HY := Lib.hid hy
          have HIN := Lib.hid hin
          clear hy hin
          obtain ⟨v, hv⟩ : ∃ v, validB q.1 = v := ⟨_, rfl⟩
          have HVV := Lib.hid hv
          rw [hv] at HV
          clear hv
          cases v with
          | false =>
            go_wp2_with (first | (refine wpList_nm_ok rfl (.tmp 35) (.tmp 37) _ rfl Tryz.underlying59 Tryz.underlying9 Tryz.underlying4 (hz _) rfl HM2.out q.1 HL2.out rfl ?_; rw [HY.out]; simp only [Option.getD_none, Option.isSome_none]) | (go_at_call 24; refine HV.out.mono ?_; rintro e w3 ⟨rfl, hb3⟩; have HB3 := Lib.hid hb3; clear hb3))
            go_ret2
            have e := req_bad (vb := validB) (t := t) (o := o) (l := l) (by rw [wish_inv (List.mem_of_getElem? HLQ.out) HVV.out, Bool.and_false])
            rw [e]
            exact TPost.same HM.out (HW2.out.trans (HB3.out.mono HW2.out.size)) rfl
          | true =>
            go_wp2_with (first | (refine wpList_nm_ok rfl (.tmp 35) (.tmp 37) _ rfl Tryz.underlying59 Tryz.underlying9 Tryz.underlying4 (hz _) rfl HM2.out q.1 HL2.out rfl ?_; rw [HY.out]; simp only [Option.getD_none, Option.isSome_none]) | (go_at_call 24; refine HV.out.mono ?_; rintro e w3 ⟨rfl, hb3⟩; have HB3 := Lib.hid hb3; have HM3 := Lib.hid (HM2.out.below hb3); have h30 := (HR.out.below hb3).cell 0; have h31 := (HR.out.below hb3).cell 1; have h3g := (HB2.out.below hb3).cell 1; simp [na] at h30 h31 h3g; clear hb3) | (refine wpList_nm_put rfl (.tmp 49) (.tmp 51) (.tmp 53) _ rfl Tryz.underlying59 Tryz.underlying9 Tryz.underlying4 rfl HM3.out (by unfold maxLen; omega) q.1 HL2.out rfl q.2 rfl ?_; intro w4 hm4 hg4; have HM4 := Lib.hid hm4; have HG4 := Lib.hid hg4; clear hm4 hg4))
            go_roundw
            case rel =>
              have hW3 := HW2.out.trans (HB3.out.mono HW2.out.size)
              refine ⟨k + 1, hlt, by simp, ?_, ?_, ?_, Lib.hid ?_, Lib.hid ?_⟩
              · have := HM4.out
                rw [← lk_snoc HIN.out, ← take_snoc HLQ.out] at this
                exact this
              · exact (HB2.out.below HB3.out).grown HG4.out (by have := HGE.out; have := HME.out; simp; omega)
              · exact hW3.grown HG4.out (by have := hW3.size; omega) (fun k e => by cases e; have := HME.out; omega)
              · rw [take_snoc HLQ.out]
                unfold names
                rw [List.map_append, List.nodup_append]
                exact ⟨hnd.out, by simp, fun a ha b hb e => by simp at hb; rw [e, hb] at ha; exact HIN.out ha⟩
              · rw [take_snoc HLQ.out, List.all_append, hva.out]
                simp [HVV.out]
            case measure => simp only [intOf]; omega
      · obtain rfl : k = n := by omega
        have hk1 : ¬ (k : Int) < (k : Int) := by omega
        have hln := HN.out.len
        have HLN := Lib.hid hln
        have HWO := Lib.hid (show wishB validB l = true from by
          have h1 := hnd.out
          have h2 := hva.out
          rw [← hln, List.take_length] at h1 h2
          exact wish_ok (by omega) h1 h2)
        have hms := HMW.out
        rw [← hln, List.take_length] at hms
        have hky : Keys l := by have h1 := hnd.out; rw [← hln, List.take_length] at h1; exact h1
        have HNS := Lib.hid (show NsAt wr (⟨o, sortN l⟩, mb) from ⟨by
          show NMap wr Tryz.prog 9 4 mb 1000 (lk (sortN l))
          rw [← lk_perm (sortN_perm l).symm hky]
          exact hms.mono (by omega), ((sortN_perm l).map _).nodup_iff.2 hky⟩)
        clear hln hms hky
        obtain ⟨hs, ws, vh, vw, mT, rfl, hF⟩ := HM.out
        have mR := mT.below HWW.out
        obtain ⟨Ah, ch, rfl, hh⟩ := mR.clsH
        obtain ⟨Aw, cw, rfl, hw⟩ := mR.clsW
        have HH := Lib.hid hh
        have HW := Lib.hid hw
        have hc0 := mR.box.cell 0
        have hc1 := mR.box.cell 1
        simp at hc0 hc1
        have HMR := Lib.hid mR
        have hl1 : hs.length + ws.length ≤ 100000 := by simpa [fstT] using hl
        have HF := Lib.hid hF
        have HMT := Lib.hid mT
        clear hh hw mR hF mT hl
        have HIT := Lib.hid (@inT_fst hs ws o)
        go_wp2_with fail
        refine (clFind o Ah hs.length ch hs wr HH.out.at_ (by omega)).mono ?_
        rintro e w5 ⟨rfl, hb5⟩
        have hany1 := fIdxT_any (fun l : Cm => decide (l.1.id = o)) hs
        obtain ⟨j1, hj1⟩ : ∃ j1, fIdxT (fun l : Cm => decide (l.1.id = o)) hs = j1 := ⟨_, rfl⟩
        rw [hj1] at hany1 ⊢
        have HA1 := Lib.hid hany1
        have HW5 := Lib.hid (HWW.out.trans (hb5.mono HWW.out.size))
        have HB5 := Lib.hid hb5
        have hd0 := (HMR.out.below hb5).box.cell 0
        have hd1 := (HMR.out.below hb5).box.cell 1
        simp at hd0 hd1
        clear hj1 hany1 hb5 hc0 hc1
        by_cases h1 : 0 ≤ j1
        · go_wp2
          go_ret2
          have e : requestP validB (fstT hs ws) o l = (fstT hs ws, false, 5) := by
            unfold requestP
            rw [HWO.out, HIT.out, ← HA1.out]
            simp [h1, ho1, ho2]
          rw [e]
          exact TPost.same HM.out HW5.out rfl
        · have hj0 : j1 < 0 := by omega
          go_wp2_with fail
          refine (clFind o Aw ws.length cw ws w5 (HW.out.at_.below HB5.out) (by omega)).mono ?_
          rintro e w6 ⟨rfl, hb6⟩
          have hany2 := fIdxT_any (fun l : Cm => decide (l.1.id = o)) ws
          obtain ⟨j2, hj2⟩ : ∃ j2, fIdxT (fun l : Cm => decide (l.1.id = o)) ws = j2 := ⟨_, rfl⟩
          rw [hj2] at hany2 ⊢
          have HA2 := Lib.hid hany2
          have HW6 := Lib.hid (HW5.out.trans (hb6.mono HW5.out.size))
          have HB6 := Lib.hid (below_then HB5.out hb6)
          clear hj2 hany2 hd0 hd1 hb6
          by_cases h2 : 0 ≤ j2
          · go_wp2
            go_ret2
            have e : requestP validB (fstT hs ws) o l = (fstT hs ws, false, 5) := by
              unfold requestP
              rw [HWO.out, HIT.out, ← HA1.out, ← HA2.out]
              simp [h2, ho1, ho2]
            rw [e]
            exact TPost.same HM.out HW6.out rfl
          · have hj02 : j2 < 0 := by omega
            have HRP := Lib.hid (show requestP validB (fstT hs ws) o l = ((enter (fstT hs ws) ⟨o, sortN l⟩).1, (enter (fstT hs ws) ⟨o, sortN l⟩).2, 0) from by
              unfold requestP
              rw [HWO.out, HIT.out, ← HA1.out, ← HA2.out]
              simp [h1, h2, ho1, ho2])
            have HT6 := Lib.hid (HMR.out.below HB6.out)
            have HG6 := Lib.hid (HBL.out.below HB6.out)
            have HN6 := Lib.hid (HNS.out.below HB6.out)
            have hd0 := HT6.out.box.cell 0
            have hd1 := HT6.out.box.cell 1
            simp at hd0 hd1
            have HZ := Lib.hid hz
            clear hz h1 h2
            have HCH := Lib.hid (show ∃ A c, Value.slice Ah hs.length ch = .slice A hs.length c ∧ ClsT w6.heap.size w6 A hs.length hs from HT6.out.clsH)
            have HCW := Lib.hid (show ∃ A c, Value.slice Aw ws.length cw = .slice A ws.length c ∧ ClsT w6.heap.size w6 A ws.length ws from HT6.out.clsW)
            have hlenC : (Tryz.prog.info? tC).map (·.size) = some 2 := by kernel_rfl
            obtain ⟨x, hxe⟩ : ∃ x : Cm, x = (⟨o, sortN l⟩, mb) := ⟨_, rfl⟩
            have HXE := Lib.hid hxe
            rw [← hxe] at HN6
            rw [show (#[Value.int .i64 o, .map (some mb)] : Array Value) = ca x from by rw [hxe]; rfl] at HG6
            clear hxe HNS HBL HMW HH HW hnd hva
            go_upto_region 14 with (fail)
            clear hj0 hj02
            go_still_tail 9, (by kernel_rfl)
            refine wpStill_load_cells rfl tC (.tmp 8) rfl ⟨g, 0, none⟩ rfl (ca x) _ (by exact HG6.out.add) Tryz.underlying61 rfl hlenC ?_
            repeat still_step
            try refine wpStill_nil ?_
            go_wp2_with fail
            have hdb : Below w6.heap.size w6 w6.drew := (Below.refl _ w6).drew
            have hkd : KeepT w6.heap.size w6 w6.drew := KeepT.of_below hdb
            obtain ⟨A1, c1, e1, hm1⟩ := HCH.out
            obtain ⟨A2, c2, e2, hm2⟩ := HCW.out
            cases e1
            cases e2
            have hcall := clBlocked x hs ws hs.length ch ws.length cw Ah Aw w6.drew (hkd.ns HN6.out HN6.out.lt) HN6.out.lt (hm1.keep hkd) (hm2.keep hkd) (by omega) (by omega)
            unfold cv at hcall
            refine hcall.mono ?_
            rintro e w7 ⟨hb7, lb, rfl, hs7⟩
            have HSQ := Lib.hid hs7
            have hB7 := below_then hdb hb7
            have HB7 := Lib.hid hB7
            clear hcall hb7 hs7 hdb hkd hm1 hm2 hd0 hd1
            go_wp2_with fail
            refine (clFree lb _ w7 HSQ.out).mono ?_
            rintro e w8 ⟨rfl, hb8⟩
            have hB8 := below_then HB7.out hb8
            have HT8 := Lib.hid (HT6.out.below hB8)
            have HG8 := Lib.hid (HG6.out.below hB8)
            have HN8 := Lib.hid (HN6.out.below hB8)
            have HW8 := Lib.hid (HW6.out.trans (hB8.mono HW6.out.size))
            clear hb8 hB8 HB7 HSQ
            have HXL := Lib.hid (show B ≤ mb from by have h1 := HMT.out.box.lt; have h2 := HMT.out.base; have h3 := HME.out; omega)
            have HXX := Lib.hid (show mb = x.2 from by rw [HXE.out])
            have HXB := Lib.hid (show w.heap.size ≤ x.2 from by rw [HXE.out]; exact Nat.le_of_eq HME.out)
            have HXN := Lib.hid (show ∀ y ∈ hs ++ ws, y.2 ≠ x.2 from fun y hy e => by have h1 := HMT.out.mapLt hy; have h2 := HXB.out; omega)
            have HX1 := Lib.hid (show x.1 = ⟨o, sortN l⟩ from by rw [HXE.out])
            clear HQ HG HM1 HB1 HBW HN HWW HLN
            by_cases hbl : blkC hs x ++ blkC ws x = []
            · have hbl2 : decide (blkC hs x ++ blkC ws x = []) = true := by simpa using hbl
              have HEN := Lib.hid (show enter (fstT hs ws) ⟨o, sortN l⟩ = (⟨(fstT hs ws).hs ++ [x.1], (fstT hs ws).ws⟩, true) from by
                unfold enter
                rw [← HX1.out, if_pos (blkC_all.1 hbl)])
              rw [hbl2]
              clear hbl hbl2
              go_upto_region 17 with (fail)
              obtain ⟨hn1p, hn2p⟩ := HT8.out.box_ne
              obtain ⟨a0, a1⟩ := qcells HG8.out
              have hc8 := HT8.out.box.cell 0
              have hf8 := HT8.out.box.frozen 0
              simp at hc8
              obtain ⟨i0, hi0', hz0, hz1, hz2⟩ := info_parts infoC
              have HI0 := Lib.hid hi0'
              have HZ0 := Lib.hid hz0
              have HZ1 := Lib.hid hz1
              have HZ2 := Lib.hid hz2
              obtain ⟨v5, hv5⟩ : ∃ v5, (Value.slice Ah hs.length ch) = v5 := ⟨_, rfl⟩
              have hB8 : B ≤ w8.heap.size := by have h1 := HT8.out.box.lt; have h2 := HT8.out.base; omega
              have hq8 := HG8.out.lt
              have hp8 := HT8.out.box.lt
              rw [hv5] at HT8 HMT hn1p hc8 ⊢
              have hne1 : some p ≠ v5.ownBlock := fun e => hn1p e.symm
              clear hv5 hi0' hz0 hz1 hz2 hlenC HCH HCW HT6 HMR hB7 hn1p hn2p
              go_cut [100] (fun _ wx => ∃ v, Tab wx B p (hs ++ [x]) ws v (.slice Aw ws.length cw) ∧ MovedT p NoM w8 wx)
              case first =>
                go_region_law ((refine step_append_lies _ (by rfl) _ _ _ (by rfl) B tC i0 _ 2 16 Tryz.underlying64 HI0.out HZ0.out HZ1.out HZ2.out rfl (by omega) v5 hs.length (ccs hs) (by rfl) ((HT8.out.held.alloc _).drew) ⟨w8.heap.size, 0, none⟩ 1 1 (cc x) (by rfl) (by rfl) (World.news_of_block (cs := ca x) (t := tC) (fr := (0, 0)) (heap_alloc_new w8 _)) (cc_one x) (by omega) (by unfold maxLen; omega) (by omega) (by simp; omega) (w8.heap.size + 1) (by simp) ?_; intro gg cap w9 hown9 hgrow hat hlt9; have hb9 := ((((HT8.out.box.alloc _).drew).grown hgrow hne1)); have hc9 := hb9.cell 0; have hf9 := hb9.frozen 0; simp at hc9; have HP9 := Lib.hid (HT8.out.toTab.push0 (M := NoM) hgrow hown9 hat); clear hb9 hown9 hat hgrow hlt9))
                all_goals (go_wp2; go_meet; case rel => exact ⟨_, HP9.out⟩)
              case rest =>
                obtain ⟨v8, hm9, hv9⟩ := hcut
                have HM9 := Lib.hid (HT8.out.join0 HN8.out (HXX.out ▸ HXL.out) HXN.out hm9 hv9)
                have HV9 := Lib.hid hv9
                clear hm9 hv9 a0 a1 hc8 hf8
                go_wp2
                go_ret2
                refine req_done (x := x) HMT.out HF.out HW8.out HV9.out HM9.out (fun y hy => by simp at hy ⊢; rcases hy with h | h | h <;> simp [h]) HXB.out (by rw [HRP.out, HEN.out]; simp [fstT]) (by rw [HRP.out, HEN.out]; rfl)
            · have hbl2 : decide (blkC hs x ++ blkC ws x = []) = false := by simpa using hbl
              have HEN := Lib.hid (show enter (fstT hs ws) ⟨o, sortN l⟩ = (⟨(fstT hs ws).hs, (fstT hs ws).ws ++ [x.1]⟩, false) from by
                unfold enter
                rw [← HX1.out, if_neg (fun h => hbl (blkC_all.2 h))])
              rw [hbl2]
              clear hbl hbl2
              go_upto_region 15 with (fail)
              obtain ⟨hn1p, hn2p⟩ := HT8.out.box_ne
              obtain ⟨a0, a1⟩ := qcells HG8.out
              have hc8 := HT8.out.box.cell 1
              have hf8 := HT8.out.box.frozen 1
              simp at hc8
              obtain ⟨i0, hi0', hz0, hz1, hz2⟩ := info_parts infoC
              have HI0 := Lib.hid hi0'
              have HZ0 := Lib.hid hz0
              have HZ1 := Lib.hid hz1
              have HZ2 := Lib.hid hz2
              obtain ⟨v5, hv5⟩ : ∃ v5, (Value.slice Aw ws.length cw) = v5 := ⟨_, rfl⟩
              have hB8 : B ≤ w8.heap.size := by have h1 := HT8.out.box.lt; have h2 := HT8.out.base; omega
              have hq8 := HG8.out.lt
              have hp8 := HT8.out.box.lt
              rw [hv5] at HT8 HMT hn2p hc8 ⊢
              have hne1 : some p ≠ v5.ownBlock := fun e => hn2p e.symm
              clear hv5 hi0' hz0 hz1 hz2 hlenC HCH HCW HT6 HMR hB7 hn1p hn2p
              go_cut [90] (fun _ wx => ∃ v, Tab wx B p hs (ws ++ [x]) (.slice Ah hs.length ch) v ∧ MovedT p NoM w8 wx)
              case first =>
                go_region_law ((refine step_append_lies _ (by rfl) _ _ _ (by rfl) B tC i0 _ 2 16 Tryz.underlying64 HI0.out HZ0.out HZ1.out HZ2.out rfl (by omega) v5 ws.length (ccs ws) (by rfl) ((HT8.out.wait.alloc _).drew) ⟨w8.heap.size, 0, none⟩ 1 1 (cc x) (by rfl) (by rfl) (World.news_of_block (cs := ca x) (t := tC) (fr := (0, 0)) (heap_alloc_new w8 _)) (cc_one x) (by omega) (by unfold maxLen; omega) (by omega) (by simp; omega) (w8.heap.size + 1) (by simp) ?_; intro gg cap w9 hown9 hgrow hat hlt9; have hb9 := ((((HT8.out.box.alloc _).drew).grown hgrow hne1)); have hc9 := hb9.cell 1; have hf9 := hb9.frozen 1; simp at hc9; have HP9 := Lib.hid (HT8.out.toTab.push1 (M := NoM) hgrow hown9 hat); clear hb9 hown9 hat hgrow hlt9))
                all_goals (go_wp2; go_meet; case rel => exact ⟨_, HP9.out⟩)
              case rest =>
                obtain ⟨v8, hm9, hv9⟩ := hcut
                have HM9 := Lib.hid (HT8.out.join1 HN8.out (HXX.out ▸ HXL.out) HXN.out hm9 hv9)
                have HV9 := Lib.hid hv9
                clear hm9 hv9 a0 a1 hc8 hf8
                go_wp2
                go_ret2
                refine req_done (x := x) HMT.out HF.out HW8.out HV9.out HM9.out (fun y hy => by simp at hy ⊢; rcases hy with h | h | h <;> simp [h]) HXB.out (by rw [HRP.out, HEN.out]; simp [fstT]) (by rw [HRP.out, HEN.out]; rfl)
end Go.Proofs.YtjklhiifjnmedaaGreatDoor
