/- EnqueueExclusive: the law's walk. -/
import Derived.Test.YtojbddcbnnbklaaDoorClConfL
namespace Go.Proofs.YtojbddcbnnbklaaDoor
open Go.RowKit P43
attribute [local go_sem] ByteArray.mk_append_mk ByteArray.extract_mk mk_index

theorem few_of {xs : List OpM} {n : Nat} (hl : xs.length = n) {most : Nat} (h : fewO xs most = true) : xs.all shortO = true ∧ n ≤ most := by
  unfold fewO at h
  simp only [Bool.and_eq_true, decide_eq_true_eq] at h
  exact ⟨h.1, by omega⟩
/-- The cells of a call in a box. -/
theorem obox {w : World} {g : Nat} {a : OpM} (h : Blk w g tO (oa a)) : w.cell? ⟨g, 0, none⟩ = some (.int .i64 a.p.kind) ∧ w.cell? ⟨g, 1, none⟩ = some (.int .i64 a.p.owner) ∧ w.cell? ⟨g, 2, none⟩ = some (.slice a.A a.n a.c) ∧ w.cell? ⟨g, 3, none⟩ = some (.string ⟨a.p.name.toArray⟩) := ⟨h.cell 0, h.cell 1, h.cell 2, h.cell 3⟩
theorem orow {w : World} {b off n : Nat} {xs : List OpM} (h : OpsAt w (some ⟨b, off, none⟩) n xs) {k : Nat} {a : OpM} (hl : xs[k]? = some a) :
    ∀ (j : Nat) (u : Value), (#[.int .i64 a.p.kind, .int .i64 a.p.owner, .slice a.A a.n a.c, .string ⟨a.p.name.toArray⟩] : Array Value)[j]? = some u → w.cell? ((⟨b, off + k * 4, none⟩ : Addr).add j) = some u := h.row hl
theorem obox1 (w : World) (a : OpM) : ∃ (w2 : World) (p : Nat), w.alloc (.cells #[.int .i64 a.p.kind, .int .i64 a.p.owner, .slice a.A a.n a.c, .string ⟨a.p.name.toArray⟩] 32) = w2 ∧ w.heap.size = p ∧ Below w.heap.size w w2 ∧ Blk w2 p tO (oa a) := boxes1 w tO (oa a)
theorem nbox1 (w : World) (q : P43.Nm × Bool) : ∃ (w2 : World) (p : Nat), w.alloc (.cells #[.string ⟨q.1.toArray⟩, .bool q.2] 43) = w2 ∧ w.heap.size = p ∧ Below w.heap.size w w2 ∧ Blk w2 p tNL (na q) := boxes1 w tNL (na q)
theorem lens40 {xs : List OpM} (hs : xs.all shortO = true) (k : Nat) : (runP validB (opsP (xs.take k))).hs.length + (runP validB (opsP (xs.take k))).ws.length ≤ xs.length := by
  have h1 := Good.lens (good_ops (short_take hs k))
  have h2 : (opsP (xs.take k)).length ≤ xs.length := by
    unfold opsP
    rw [List.length_map, List.length_take]
    omega
  omega
theorem TT.up {w : World} {B B' p : Nat} {t : T} {F : Nat → Prop} (h : TT w B p t F) (hB : B' ≤ B) : TT w B' p t F := by
  obtain ⟨hs, ws, vh, vw, m, e, hF⟩ := h
  exact ⟨hs, ws, vh, vw, ⟨⟨m.box, Nat.le_trans hB m.base, World.ownsRow.mono m.held hB, World.ownsRow.mono m.wait hB, m.apart⟩, ⟨m.maps.ns, fun x hx => Nat.le_trans hB (m.maps.lo x hx), m.maps.nd⟩⟩, e, hF⟩
set_option maxRecDepth 100000 in
set_option maxHeartbeats 8000000 in
theorem lawExcl (A : Option Addr) (n c : Nat) (xs : List OpM) (w : World) (hG : GlobM w) (h : OpsAt w A n xs) (hn : n ≤ maxLen) :
    Calls Tryd.prog 4 #[.slice A n c] w fun e w' => e = .returned (.bool true) ∧ Below w.heap.size w w' := by
  have HG := Lib.hid hG
  have HS := Lib.hid h
  have HLN := Lib.hid h.len
  have hn63 : n ≤ 9223372036854775807 := by unfold maxLen at hn; omega
  clear hG h hn
  have hlenO : (Tryd.prog.info? tO).map (·.size) = some 4 := by kernel_rfl
  go_enter Tryd.func4, Tryd.ntmps4
  go_wp2_with fail
  refine (clAwake w HG.out).mono ?_
  rintro e w1 ⟨rfl, hb1⟩
  have HB1 := Lib.hid hb1
  have HS1 := Lib.hid (HS.out.below hb1)
  clear hb1
  go_wp2_with fail
  refine (clFew 40 A n c xs w1 HS1.out hn63).mono ?_
  rintro e w1' ⟨rfl, rfl⟩
  cases hf : fewO xs 40 with
  | false =>
    clear hf
    go_wp2
    go_ret
    exact ⟨rfl, HB1.out⟩
  | true =>
    obtain ⟨hsh, hn40⟩ := few_of HLN.out (most := 40) hf
    have HSH := Lib.hid hsh
    clear hf hsh
    go_wp2_with fail
    refine (clNew w1).mono ?_
    rintro e w2 ⟨p, rfl, hm2, hb2⟩
    have HM2 := Lib.hid (show ∃ F, TT w2 w.heap.size p (runP validB (opsP (xs.take 0))) F from ⟨_, TT.up ⟨[], [], _, _, hm2, rfl, fun k => Iff.rfl⟩ HB1.out.size⟩)
    have HB2 := Lib.hid (HB1.out.trans (hb2.mono HB1.out.size))
    clear hm2 hb2
    go_wp2
    go_loopw [26] (fun i wr => ∃ k : Nat, k ≤ n ∧ i = .int .i64 k ∧ (∃ F, TT wr w.heap.size p (runP validB (opsP (xs.take k))) F) ∧ Below w.heap.size w wr) (fun i _ => n - (intOf i).toNat)
    case atStart => exact ⟨0, Nat.zero_le _, rfl, HM2.out, HB2.out⟩
    case round =>
      obtain ⟨k, hk, rfl, ⟨F, hm⟩, hbw⟩ := hrel
      have HM := Lib.hid hm
      have HB := Lib.hid hbw
      have hsz := hbw.size
      clear hm hbw
      by_cases hlt : k < n
      · obtain ⟨b, off, o, rfl, hx⟩ := HS.out.at_ hlt
        have HR := Lib.hid (orow (HS.out.below HB.out) hx)
        have HX := Lib.hid hx
        have HIN := Lib.hid ((HS.out.ins o (List.mem_of_getElem? hx)).below HB.out)
        have HSO := Lib.hid (List.all_eq_true.1 HSH.out o (List.mem_of_getElem? hx))
        clear hx
        go_upto_region 9 with (refine wpList_load_cells rfl tO (.tmp 28) rfl ⟨b, off + k * 4, none⟩ rfl _ _ HR.out Tryd.underlying32 rfl hlenO ?_)
        obtain ⟨w4, g4, e1, e2, hb4, h4⟩ := obox1 wr o
        rw [e1, e2]
        have HM4 := Lib.hid (HM.out.below hb4)
        have HB4 := Lib.hid (HB.out.trans (hb4.mono hsz))
        have HC4 := Lib.hid h4.add
        have HIN4 := Lib.hid (HIN.out.below hb4)
        clear e1 e2 hb4 h4
        have hlen := lens40 HSH.out k
        have hxl := HLN.out
        have HGD := Lib.hid (good_ops (short_take HSH.out k))
        go_wp2_with (refine wpList_load_cells rfl tO (.tmp 5) rfl ⟨g4, 0, none⟩ rfl _ _ HC4.out Tryd.underlying32 rfl hlenO ?_)
        refine (clCall w.heap.size p _ F o _ HM4.out (HG.out.below HB4.out) (by omega) HGD.out.inv.hold HIN4.out HSO.out).mono ?_
        rintro e w5 ⟨⟨v5, rfl, -⟩, F5, hm5, hc5⟩
        have HB5 := Lib.hid (HB4.out.trans (hc5.below (B := w.heap.size) (fun k hk => (HM4.out.ge hk).1) HB4.out.size))
        rw [← runP_take HX.out] at hm5
        have HGD5 := Lib.hid (good_ops (short_take HSH.out (k + 1)))
        have hlen5 := lens40 HSH.out (k + 1)
        obtain ⟨t5, ht5⟩ : ∃ t5, runP validB (opsP (xs.take (k + 1))) = t5 := ⟨_, rfl⟩
        have HT5 := Lib.hid ht5
        rw [ht5] at hm5 HGD5 hlen5
        have HM5 := Lib.hid hm5
        have HS5 := Lib.hid (HS.out.below HB5.out)
        have hsz5 := HB5.out.size
        have HGH := Lib.hid (show ∀ c ∈ t5.hs, GoodC c from fun c hc => HGD5.out.good c (List.mem_append_left _ hc))
        clear hm5 hc5 ht5 hlen HGD HIN4 HC4 HB4 HM4 HR HIN HSO
        obtain ⟨wo, hwo⟩ : ∃ wo, wr = wo := ⟨_, rfl⟩
        rw [hwo] at HB hsz HM
        clear hwo wr
        go_wp2
        go_loopw [35] (fun i wr => ∃ k2 : Nat, k2 ≤ n ∧ i = .int .i64 k2 ∧ Below w5.heap.size w5 wr) (fun i _ => n - (intOf i).toNat)
        case atStart => exact ⟨0, Nat.zero_le _, rfl, Below.refl _ _⟩
        case round =>
          obtain ⟨k2, hk2, rfl, hb6⟩ := hrel
          have HB6 := Lib.hid hb6
          have hsz6 := hb6.size
          clear hb6
          by_cases hlt2 : k2 < n
          · obtain ⟨b2, off2, a, he2, ha⟩ := HS5.out.at_ hlt2
            cases he2
            have HR := Lib.hid (orow (HS5.out.below HB6.out) ha)
            clear ha
            go_upto_region 13 with (refine wpList_load_cells rfl tO (.tmp 37) rfl ⟨b, off + k2 * 4, none⟩ rfl _ _ HR.out Tryd.underlying32 rfl hlenO ?_)
            obtain ⟨w7, g7, e1, e2, hb7, h7⟩ := obox1 wr a
            rw [e1, e2]
            obtain ⟨y0, y1, y2, y3⟩ := obox h7
            have HB7 := Lib.hid (HB6.out.trans (hb7.mono hsz6))
            have H7 := Lib.hid h7
            clear e1 e2 hb7 h7 y0 y2 y3
            go_wp2_with fail
            refine (clHeld w.heap.size p t5 F5 a.p.owner w7 (HM5.out.below HB7.out) (by omega) HGH.out).mono ?_
            rintro e w8 ⟨v8, rfl, ho8, hb8⟩
            obtain ⟨A8, c8, rfl, hn8, hl8⟩ := ho8.cells
            have HN8 := Lib.hid hn8
            have HB8 := Lib.hid (HB7.out.trans (hb8.mono HB7.out.size))
            have H8 := Lib.hid (H7.out.below hb8)
            have HS8 := Lib.hid ((HS5.out.below HB8.out))
            have HM8 := Lib.hid (HM5.out.below HB8.out)
            have hsz8 := HB8.out.size
            obtain ⟨m8, hm8⟩ : ∃ m8, (heldP t5 a.p.owner).length = m8 := ⟨_, rfl⟩
            rw [hm8] at HN8 hl8 ⊢
            have HL8 := Lib.hid hm8
            have hl63 : m8 ≤ 9223372036854775807 := by unfold maxLen at hl8; omega
            clear hn8 hb8 ho8 y1 hm8 hl8 HR H7 HB7
            obtain ⟨wo2, hwo2⟩ : ∃ wo2, wr = wo2 := ⟨_, rfl⟩
            rw [hwo2] at HB6 hsz6
            clear hwo2 wr
            go_wp2
            go_loopw [45] (fun i wr => ∃ k3 : Nat, k3 ≤ n ∧ i = .int .i64 k3 ∧ Below w8.heap.size w8 wr) (fun i _ => n - (intOf i).toNat)
            case atStart => exact ⟨0, Nat.zero_le _, rfl, Below.refl _ _⟩
            case round =>
              obtain ⟨k3, hk3, rfl, hb9⟩ := hrel
              have HB9 := Lib.hid hb9
              have hsz9 := hb9.size
              clear hb9
              by_cases hlt3 : k3 < n
              · obtain ⟨b3, off3, a3, he3, ha3⟩ := HS8.out.at_ hlt3
                cases he3
                have HR := Lib.hid (orow (HS8.out.below HB9.out) ha3)
                clear ha3
                go_upto_region 17 with (refine wpList_load_cells rfl tO (.tmp 47) rfl ⟨b, off + k3 * 4, none⟩ rfl _ _ HR.out Tryd.underlying32 rfl hlenO ?_)
                obtain ⟨w10, g10, e1, e2, hb10, h10⟩ := obox1 wr a3
                rw [e1, e2]
                have HB10 := Lib.hid (HB9.out.trans (hb10.mono hsz9))
                obtain ⟨-, y1, -, -⟩ := obox h10
                obtain ⟨-, z1, -, -⟩ := obox (H8.out.below HB10.out)
                clear e1 e2 hb10 h10
                by_cases heq : a.p.owner = a3.p.owner
                · have heb : (a.p.owner != a3.p.owner) = false := by simp [heq]
                  go_wp2
                  go_roundw
                  case rel => exact ⟨k3 + 1, hlt3, by simp, HB10.out⟩
                  case measure => dsimp only [intOf]; omega
                · have heb : (a.p.owner != a3.p.owner) = true := by simp [heq]
                  have HNE := Lib.hid heq
                  clear heq
                  go_wp2_with fail
                  refine (clHeld w.heap.size p t5 F5 a3.p.owner w10 (HM8.out.below HB10.out) (by omega) HGH.out).mono ?_
                  rintro e w11 ⟨v11, rfl, ho11, hb11⟩
                  obtain ⟨A11, c11, rfl, hn11, hl11⟩ := ho11.cells
                  have HN11 := Lib.hid hn11
                  have HB11 := Lib.hid (HB10.out.trans (hb11.mono HB10.out.size))
                  have HL11 := Lib.hid hl11
                  clear hn11 hb11 ho11 hl11 y1 z1
                  go_wp2_with fail
                  refine (clConfL A8 A11 m8 c8 _ c11 (heldP t5 a.p.owner) (heldP t5 a3.p.owner) w11 (HN8.out.below HB11.out) HN11.out hl63 (by have := HL11.out; unfold maxLen at this; omega)).mono ?_
                  rintro e w12 ⟨rfl, hb12⟩
                  rw [show confL (heldP t5 a.p.owner) (heldP t5 a3.p.owner) = false from ex_conf HGD5.out.inv HNE.out]
                  have HB12 := Lib.hid (HB11.out.trans (hb12.mono HB11.out.size))
                  clear hb12
                  go_wp2
                  go_roundw
                  case rel => exact ⟨k3 + 1, hlt3, by simp, HB12.out⟩
                  case measure => dsimp only [intOf]; omega
              · have hkn : k3 = n := by omega
                have hk1 : ¬ (k3 : Int) < (n : Int) := by omega
                have HS9 := Lib.hid (HS8.out.below HB9.out)
                have HM9 := Lib.hid (HM8.out.below HB9.out)
                have H9 := Lib.hid (H8.out.below HB9.out)
                have HN9 := Lib.hid (HN8.out.below HB9.out)
                have HBA := Lib.hid (HB8.out.trans (HB9.out.mono HB8.out.size))
                have hszA := HBA.out.size
                obtain ⟨wo3, hwo3⟩ : ∃ wo3, wr = wo3 := ⟨_, rfl⟩
                rw [hwo3] at HB9 HS9 HM9 H9 HN9 HBA hszA hsz9 ⊢
                clear hwo3 wr
                go_wp2
                go_loopw [65] (fun i wr => ∃ k4 : Nat, k4 ≤ m8 ∧ i = .int .i64 k4 ∧ Below wo3.heap.size wo3 wr) (fun i _ => m8 - (intOf i).toNat)
                case atStart => exact ⟨0, Nat.zero_le _, rfl, Below.refl _ _⟩
                case round =>
                  obtain ⟨k4, hk4, rfl, hb13⟩ := hrel
                  have HB13 := Lib.hid hb13
                  have hsz13 := hb13.size
                  clear hb13
                  by_cases hlt4 : k4 < m8
                  · obtain ⟨b8, off8, x, he8, hx8, q0, q1⟩ := (NlsAt.below HN9.out HB13.out).at_ hlt4
                    subst he8
                    have hxm : x ∈ heldP t5 a.p.owner := List.mem_of_getElem? hx8
                    obtain ⟨hx1, hx2, hx3⟩ := ex_holders HGD5.out.inv (fun c hc => (HGH.out c hc).srt.once) hxm
                    have hx60 : x.1.length ≤ 60 := by
                      obtain ⟨c, hc, e1, e2⟩ := held_some (t := t5) (o := a.p.owner) (fun e => by rw [e] at hxm; cases hxm)
                      rw [e2] at hxm
                      exact (HGH.out c hc).nm x hxm
                    have HX1 := Lib.hid hx1
                    have HX2 := Lib.hid hx2
                    have HX3 := Lib.hid hx3
                    have hk41 : (k4 : Int) < (m8 : Int) := by omega
                    have hk42 : (0 : Int) ≤ (k4 : Int) := by omega
                    clear hx8 hxm hx1 hx2 hx3
                    go_upto_region 23 with (fail)
                    obtain ⟨w14, g14, e1, e2, hb14, h14⟩ := nbox1 wr x
                    rw [e1, e2]
                    have HB14 := Lib.hid (HB13.out.trans (hb14.mono hsz13))
                    obtain ⟨y0, y1⟩ := ncells h14
                    have H14 := Lib.hid h14
                    clear e1 e2 hb14 h14 q0 q1
                    go_wp2_with fail
                    refine (clHolders w.heap.size p t5 F5 x.1 w14 (HM9.out.below HB14.out) (by omega) (by omega)).mono ?_
                    rintro e w15 ⟨v15, rfl, ho15, hb15⟩
                    obtain ⟨A15, c15, rfl, hl15, hat15⟩ := ho15.at_
                    have HB15 := Lib.hid (HB14.out.trans (hb15.mono HB14.out.size))
                    have HAT := Lib.hid hat15
                    have H15 := Lib.hid (H14.out.below hb15)
                    rw [HX3.out]
                    obtain ⟨ms, hms⟩ : ∃ ms, (holdersP t5 x.1).1 = ms := ⟨_, rfl⟩
                    rw [hms] at HX1 HX2 HAT hl15 ⊢
                    obtain ⟨m15, hm15⟩ : ∃ m15, ms.length = m15 := ⟨_, rfl⟩
                    rw [hm15] at HX2 hl15 ⊢
                    have HML := Lib.hid hm15
                    have hm63 : m15 ≤ 9223372036854775807 := by unfold maxLen at hl15; omega
                    obtain ⟨-, z1, -, -⟩ := obox (H9.out.below HB15.out)
                    obtain ⟨-, z5⟩ := ncells H15.out
                    clear hb15 ho15 hat15 hms hm15 hl15 y0 y1
                    obtain ⟨wo4, hwo4⟩ : ∃ wo4, wr = wo4 := ⟨_, rfl⟩
                    rw [hwo4] at HB13 hsz13
                    clear hwo4 wr
                    go_wp2
                    go_loop [15, 78] (fun f i => ∃ j : Nat, j ≤ m15 ∧ i = .int .i64 j ∧ f = .bool ((ms.take j).any fun y => y == a.p.owner)) (fun _ i => m15 - (intOf i).toNat)
                    case atStart => exact ⟨0, Nat.zero_le _, rfl, rfl⟩
                    case round =>
                      obtain ⟨j, hj, rfl, rfl⟩ := hrel
                      by_cases hlt5 : j < m15
                      · obtain ⟨y, hy⟩ : ∃ y, ms[j]? = some y := ⟨_, List.getElem?_eq_getElem (by rw [HML.out]; exact hlt5)⟩
                        obtain ⟨b15, hA15, hc15⟩ := HAT.out j y hy
                        cases hA15
                        have HTK := Lib.hid (any_take (f := fun y => y == a.p.owner) hy)
                        have hj1 : (j : Int) < (m15 : Int) := by omega
                        have hj2 : (0 : Int) ≤ (j : Int) := by omega
                        clear hy
                        obtain ⟨E, hE⟩ : ∃ E, ((ms.take j).any fun y => y == a.p.owner) = E := ⟨_, rfl⟩
                        rw [hE] at HTK ⊢
                        clear hE
                        cases E
                        all_goals
                          go_wp2
                          go_round
                          case rel => exact ⟨j + 1, hlt5, by simp, by rw [HTK.out]; simp⟩
                          case measure => dsimp only [intOf]; omega
                      · have hjm : j = m15 := by omega
                        have hj1 : ¬ (j : Int) < (m15 : Int) := by omega
                        have hfound : ((ms.take j).any fun y => y == a.p.owner) = true := by
                          rw [hjm, ← HML.out, List.take_length, List.any_eq_true]
                          exact ⟨_, HX1.out, by simp⟩
                        rw [hfound]
                        clear hfound
                        obtain ⟨xn, xb⟩ := x
                        cases xb with
                        | false =>
                          go_wp2
                          go_roundw
                          case rel => exact ⟨k4 + 1, hlt4, by simp, HB15.out⟩
                          case measure => dsimp only [intOf]; omega
                        | true =>
                          have hle1 : m15 ≤ 1 := HX2.out rfl
                          have hle2 : ¬ (1 : Int) < (m15 : Int) := by omega
                          go_wp2
                          go_roundw
                          case rel => exact ⟨k4 + 1, hlt4, by simp, HB15.out⟩
                          case measure => dsimp only [intOf]; omega
                  · have hk4n : k4 = m8 := by omega
                    have hk41 : ¬ (k4 : Int) < (m8 : Int) := by omega
                    go_wp2
                    go_roundw
                    case rel => exact ⟨k2 + 1, hlt2, by simp, HBA.out.trans (HB13.out.mono hszA)⟩
                    case measure => dsimp only [intOf]; omega
          · have hkn : k2 = n := by omega
            have hk1 : ¬ (k2 : Int) < (n : Int) := by omega
            go_wp2
            go_roundw
            case rel => exact ⟨k + 1, hlt, by simp, ⟨F5, by rw [HT5.out]; exact HM5.out.below HB6.out⟩, HB5.out.trans (HB6.out.mono hsz5)⟩
            case measure => dsimp only [intOf]; omega
      · have hkn : k = n := by omega
        have hk1 : ¬ (k : Int) < (n : Int) := by omega
        go_wp2
        go_ret
        exact ⟨rfl, HB.out⟩
end Go.Proofs.YtojbddcbnnbklaaDoor
