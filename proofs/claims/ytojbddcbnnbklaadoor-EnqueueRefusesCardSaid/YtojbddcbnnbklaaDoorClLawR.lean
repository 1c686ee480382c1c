/- EnqueueRefuses: the law's walk. -/
import Derived.Test.YtojbddcbnnbklaaDoorClRef
import Derived.Test.YtojbddcbnnbklaaDoorClDoor
namespace Go.Proofs.YtojbddcbnnbklaaDoor
open Go.RowKit P43
attribute [local go_sem] ByteArray.mk_append_mk ByteArray.extract_mk mk_index

/-- A call that is refused leaves the table as it was. -/
theorem callP_err {vb : Nm → Bool} {t : T} {o : OpL} (h : (callP vb t o).2.2.2 ≠ 0) : (callP vb t o).1 = t := by
  unfold callP at h ⊢
  split
  · rename_i h0
    rw [if_pos h0] at h
    unfold requestP at h ⊢
    split
    · rfl
    · rename_i h1
      rw [if_neg h1] at h
      split
      · rfl
      · rename_i h2
        rw [if_neg h2] at h
        exact absurd rfl h
  · rename_i h0
    rw [if_neg h0] at h
    split
    · rename_i h1
      rw [if_pos h1] at h
      unfold releaseP at h ⊢
      split
      · rename_i h2
        rw [if_pos h2] at h
        exact absurd rfl h
      · rfl
    · rename_i h1
      rw [if_neg h1] at h
      unfold shareP at h ⊢
      split
      · rename_i h2
        rw [if_pos h2] at h
        exact absurd rfl h
      · rfl
set_option maxRecDepth 100000 in
set_option maxHeartbeats 8000000 in
theorem lawRefuses (A : Option Addr) (n c : Nat) (xs : List OpM) (y : OpM) (w : World) (hG : GlobM w) (h : OpsAt w A n xs) (_hn : n ≤ maxLen) (hsz : n * 56 ≤ 140737488351232) (hy : OpIn w y) :
    Calls Tryd.prog 8 #[.slice A n c, .agg #[.int .i64 y.p.kind, .int .i64 y.p.owner, .slice y.A y.n y.c, .string ⟨y.p.name.toArray⟩]] w fun e w' => e = .returned (.bool true) ∧ Below w.heap.size w w' := by
  have HG := Lib.hid hG
  have HS := Lib.hid h
  have HY := Lib.hid hy
  have HLN := Lib.hid h.len
  have hn63 : n + 1 ≤ 9223372036854775807 := by omega
  clear hG h hy
  have hlenO : (Tryd.prog.info? tO).map (·.size) = some 4 := by kernel_rfl
  go_enter Tryd.func8, Tryd.ntmps8
  go_wp2_with fail
  obtain ⟨wa, q2, q1, e1, e2, e3, hba, hq2, hq1⟩ : ∃ (wa : World) (q2 q1 : Nat), (w.alloc (.cells #[.slice A n c] 22)).alloc (.cells #[.int .i64 y.p.kind, .int .i64 y.p.owner, .slice y.A y.n y.c, .string ⟨y.p.name.toArray⟩] 32) = wa ∧ w.heap.size = q2 ∧ w.heap.size + 1 = q1 ∧ Below w.heap.size w wa ∧ Blk wa q2 22 #[.slice A n c] ∧ Blk wa q1 tO (oa y) :=
    ⟨_, _, _, rfl, rfl, rfl, below_alloc (below_alloc (Below.refl _ _) _) _, (Blk.new w _ _).alloc _, by
      have := Blk.new (w.alloc (.cells #[.slice A n c] 22)) tO (oa y)
      rwa [World.size_alloc] at this⟩
  rw [e1, e3, e2]
  have HBA := Lib.hid hba
  have HQ1 := Lib.hid hq1
  have HQ2 := Lib.hid hq2
  clear e1 e2 e3 hba hq1 hq2
  refine (clAwake wa (HG.out.below HBA.out)).mono ?_
  rintro e w1 ⟨rfl, hb1⟩
  have HB1 := Lib.hid (HBA.out.trans (hb1.mono HBA.out.size))
  have HQ11 := Lib.hid (HQ1.out.below hb1)
  have HQ12 := Lib.hid (HQ2.out.below hb1)
  have HS1 := Lib.hid (HS.out.below HB1.out)
  have HY1 := Lib.hid (HY.out.below HB1.out)
  have HR1 := Lib.hid (show ∀ (j : Nat) (u : Value), (#[.int .i64 y.p.kind, .int .i64 y.p.owner, .slice y.A y.n y.c, .string ⟨y.p.name.toArray⟩] : Array Value)[j]? = some u → w1.cell? ((⟨q1, 0, none⟩ : Addr).add j) = some u from HQ11.out.add)
  have z1 : ∀ o : Obj, (w1.alloc o).cell? ⟨q2, 0, none⟩ = some (.slice A n c) := fun o => by
    have := (HQ12.out.alloc o).cell 0
    simpa using this
  clear hb1
  go_wp2_with (first | (refine wpList_load_cells rfl tO (.tmp 3) rfl ⟨q1, 0, none⟩ rfl _ _ HR1.out Tryd.underlying32 rfl hlenO ?_) | (at_builtin; refine wpList_append_ops rfl (.tmp 14) (.tmp 15) _ rfl Tryd.underlying22 y rfl A n c xs rfl HS1.out HY1.out hsz ?_; intro A3 c3 w3 hs3 hb3; have HS3 := Lib.hid hs3; have HB3 := Lib.hid hb3; clear hs3 hb3))
  refine (clFew 31 A3 (n + 1) c3 (y :: xs) w3 HS3.out hn63).mono ?_
  rintro e w3' ⟨rfl, rfl⟩
  clear z1
  have HB3' := Lib.hid (HB1.out.trans (HB3.out.mono HB1.out.size))
  have HQ31 := Lib.hid (HQ11.out.below HB3.out)
  have HQ32 := Lib.hid (HQ12.out.below HB3.out)
  cases hf : fewO (y :: xs) 31 with
  | false =>
    clear hf
    go_wp2
    go_ret
    exact ⟨rfl, HB3'.out⟩
  | true =>
    obtain ⟨hsh, hn40⟩ := few_of (n := n + 1) (by rw [List.length_cons, HLN.out]) (most := 31) hf
    have hsh2 : shortO y = true ∧ xs.all shortO = true := by simpa using hsh
    have HSY := Lib.hid hsh2.1
    have HSH := Lib.hid hsh2.2
    clear hf hsh hsh2
    have x3 := HQ32.out.cell 0
    simp at x3
    go_wp2_with fail
    refine (clRun A n c xs w3 (HS.out.below HB3'.out) (by omega) HSH.out (HG.out.below HB3'.out)).mono ?_
    rintro e w4 ⟨p, rfl, ⟨F, hm4⟩, hb4⟩
    have HGD := Lib.hid (good_ops HSH.out)
    have hlen2 := Good.lens HGD.out
    have hol : (opsP xs).length = n := by unfold opsP; rw [List.length_map]; exact HLN.out
    obtain ⟨t0, ht0⟩ : ∃ t0, runP validB (opsP xs) = t0 := ⟨_, rfl⟩
    have HT0 := Lib.hid ht0
    rw [ht0] at hm4 HGD hlen2
    have HM4 := Lib.hid (hm4.up HB3'.out.size)
    have HB4 := Lib.hid (HB3'.out.trans (hb4.mono HB3'.out.size))
    have HQ41 := Lib.hid (HQ31.out.below hb4)
    have HQ42 := Lib.hid (HQ32.out.below hb4)
    clear hm4 hb4 ht0 x3
    go_wp2_with fail
    refine (clClone w.heap.size p t0 F w4 HM4.out (by omega)).mono ?_
    rintro e w5 ⟨q, rfl, ⟨F2, hm5⟩, hb5⟩
    have HM5 := Lib.hid hm5
    have HB45 := Lib.hid hb5
    have HB5 := Lib.hid (HB4.out.trans (hb5.mono HB4.out.size))
    have HR5 := Lib.hid (show ∀ (j : Nat) (u : Value), (#[.int .i64 y.p.kind, .int .i64 y.p.owner, .slice y.A y.n y.c, .string ⟨y.p.name.toArray⟩] : Array Value)[j]? = some u → w5.cell? ((⟨q1, 0, none⟩ : Addr).add j) = some u from (HQ41.out.below hb5).add)
    have hpn := ptrT_nil
    clear hm5 hb5
    go_wp2_with (refine wpList_load_cells rfl tO (.tmp 3) rfl ⟨q1, 0, none⟩ rfl _ _ HR5.out Tryd.underlying32 rfl hlenO ?_)
    clear hpn
    refine (clCall w4.heap.size q t0 F2 y w5 HM5.out (HG.out.below HB5.out) (by omega) HGD.out.inv.hold (HY.out.below HB5.out) HSY.out).mono ?_
    obtain ⟨⟨t', gr, mv, code⟩, hr⟩ : ∃ r, callP validB t0 y.p = r := ⟨_, rfl⟩
    have HRR := Lib.hid hr
    unfold CPost
    rw [hr]
    dsimp only
    rintro e w6 ⟨⟨v6, rfl, -⟩, F6, hm6, hc6⟩
    have HM6 := Lib.hid hm6
    have HB46 := Lib.hid (HB45.out.trans (hc6.below (B := w4.heap.size) (fun k hk => (HM5.out.ge hk).1) HB45.out.size))
    have HB6 := Lib.hid (HB4.out.trans (HB46.out.mono HB4.out.size))
    have x6 := (HQ42.out.below HB46.out).cell 0
    simp at x6
    clear hr hm6 hc6
    go_wp2_with fail
    refine (clRun A n c xs w6 (HS.out.below HB6.out) (by omega) HSH.out (HG.out.below HB6.out)).mono ?_
    rw [HT0.out]
    rintro e w7 ⟨p3, rfl, ⟨F3, hm7⟩, hb7⟩
    have HM7 := Lib.hid (hm7.up HB6.out.size)
    have HB47 := Lib.hid (HB46.out.trans (hb7.mono HB46.out.size))
    have HB7 := Lib.hid (HB4.out.trans (HB47.out.mono HB4.out.size))
    have HM76 := Lib.hid (HM6.out.below hb7)
    have HGH := Lib.hid (show ∀ c ∈ t0.hs, GoodC c from fun c hc => HGD.out.good c (List.mem_append_left _ hc))
    clear hm7 hb7 x6
    go_wp2_with fail
    refine (clSame w.heap.size p p3 t0 F F3 y A n c q1 q2 xs w7 (HM4.out.below HB47.out) HM7.out (by omega) HGH.out (HQ41.out.below HB47.out) (HQ42.out.below HB47.out) (HS.out.below HB7.out) (HY.out.below HB7.out) hsz).mono ?_
    rintro e w8 ⟨rfl, hb8⟩
    have HB48 := Lib.hid (HB47.out.trans (hb8.mono HB47.out.size))
    have HB8 := Lib.hid (HB4.out.trans (HB48.out.mono HB4.out.size))
    have HM86 := Lib.hid (HM76.out.below hb8)
    clear hb8
    by_cases hc0 : code = 0
    · subst hc0
      go_wp2
      go_ret
      exact ⟨rfl, HB8.out⟩
    · have htt : t' = t0 := by
        have := callP_err (vb := validB) (t := t0) (o := y.p) (by rw [HRR.out]; exact hc0)
        rw [HRR.out] at this
        exact this
      subst htt
      have b0 : (code == 0) = false := by simpa using hc0
      have b1 : decide (code = 0) = false := by simpa using hc0
      go_wp2_with fail
      refine (clSame w.heap.size p q t' F F6 y A n c q1 q2 xs w8 (HM4.out.below HB48.out) (HM86.out.up HB4.out.size) (by omega) HGH.out (HQ41.out.below HB48.out) (HQ42.out.below HB48.out) (HS.out.below HB8.out) (HY.out.below HB8.out) hsz).mono ?_
      rintro e w9 ⟨rfl, hb9⟩
      have HB9 := Lib.hid (HB8.out.trans (hb9.mono HB8.out.size))
      clear hb9
      go_wp2
      go_ret
      exact ⟨rfl, HB9.out⟩
end Go.Proofs.YtojbddcbnnbklaaDoor
