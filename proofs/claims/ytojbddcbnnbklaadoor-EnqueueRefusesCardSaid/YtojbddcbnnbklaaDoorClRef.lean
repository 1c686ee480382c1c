/- EnqueueRefuses's closure: two tables that hold the same. -/
import Derived.Test.YtojbddcbnnbklaaDoorClSame2
import Derived.Test.YtojbddcbnnbklaaDoorClLawX
import Derived.Test.YtojbddcbnnbklaaDoorFree
namespace Go.Proofs.YtojbddcbnnbklaaDoor
open Go.RowKit P43
attribute [local go_sem] ByteArray.mk_append_mk ByteArray.extract_mk mk_index

theorem clWaitT (B p : Nat) (t : T) (F : Nat → Prop) (w : World) (m : TT w B p t F) (hl : t.hs.length + t.ws.length ≤ 100000) :
    Calls Tryd.prog 12 #[.pointer (some ⟨p, 0, none⟩)] w fun e w' => ∃ v, e = .returned v ∧ OwnI w' w.heap.size v (ids t.ws) ∧ Below w.heap.size w w' := by
  obtain ⟨hs, ws, vh, vw, mT, rfl, hF⟩ := m
  have := clWaiting B p hs ws vh vw w mT (by simp [fstT] at hl; omega)
  rw [← ids_idsM] at this
  exact this
set_option maxRecDepth 100000 in
set_option maxHeartbeats 8000000 in
theorem clSame (B p p2 : Nat) (t : T) (F F2 : Nat → Prop) (y : OpM) (A : Option Addr) (n c q1 q2 : Nat) (xs : List OpM) (w : World) (m : TT w B p t F) (m2 : TT w B p2 t F2) (hl : t.hs.length + t.ws.length ≤ 100000) (hg : ∀ c ∈ t.hs, GoodC c)
    (hq1 : Blk w q1 tO (oa y)) (hq2 : Blk w q2 22 #[.slice A n c]) (hS : OpsAt w A n xs) (hy : OpIn w y) (hn : n * 56 ≤ 140737488351232) :
    Calls Tryd.prog 22 #[.pointer (some ⟨p, 0, none⟩), .pointer (some ⟨p2, 0, none⟩), .pointer (some ⟨q1, 0, none⟩), .pointer (some ⟨q2, 0, none⟩)] w fun e w' => e = .returned (.bool true) ∧ Below w.heap.size w w' := by
  have hlenO : (Tryd.prog.info? tO).map (·.size) = some 4 := by kernel_rfl
  have HM1' := Lib.hid m
  have HM2' := Lib.hid m2
  have HGH := Lib.hid hg
  have HS := Lib.hid hS
  have HY := Lib.hid hy
  have HQ1 := Lib.hid (show ∀ (j : Nat) (u : Value), (#[.int .i64 y.p.kind, .int .i64 y.p.owner, .slice y.A y.n y.c, .string ⟨y.p.name.toArray⟩] : Array Value)[j]? = some u → w.cell? ((⟨q1, 0, none⟩ : Addr).add j) = some u from hq1.add)
  have z0 := hq2.cell 0
  have z1 : ∀ o : Obj, (w.alloc o).cell? ⟨q2, 0, none⟩ = some (.slice A n c) := fun o => by
    have := (hq2.alloc o).cell 0
    simpa using this
  simp at z0
  clear m m2 hg hq1 hq2 hS hy
  go_enter Tryd.func22, Tryd.ntmps22
  go_wp2_with (first | (refine wpList_load_cells rfl tO (.tmp 2) rfl ⟨q1, 0, none⟩ rfl _ _ HQ1.out Tryd.underlying32 rfl hlenO ?_) | (at_builtin; refine wpList_append_ops rfl (.tmp 10) (.tmp 11) _ rfl Tryd.underlying22 y rfl A n c xs rfl HS.out HY.out hn ?_; intro A3 c3 w3 hs3 hb3; have HS3 := Lib.hid hs3; have HB3 := Lib.hid hb3; clear hs3 hb3))
  have hn63 : n + 1 ≤ 9223372036854775807 := by omega
  have hcast : ((n + 1 : Nat) : Int) = (n : Int) + 1 := by omega
  go_loopw [14] (fun i wr => ∃ k : Nat, k ≤ n + 1 ∧ i = .int .i64 k ∧ Below w3.heap.size w3 wr) (fun i _ => n + 1 - (intOf i).toNat)
  case atStart => exact ⟨0, Nat.zero_le _, rfl, Below.refl _ _⟩
  case round =>
    obtain ⟨k, hk, rfl, hbw⟩ := hrel
    have HB := Lib.hid hbw
    have hsz := hbw.size
    clear hbw
    by_cases hlt : k < n + 1
    · have hs4 := HS3.out.below HB.out
      obtain ⟨b, off, x, rfl, hx⟩ := hs4.at_ hlt
      have HR := Lib.hid (orow hs4 hx)
      have hk1 : (k : Int) < (n : Int) + 1 := by omega
      have hk2 : (0 : Int) ≤ (k : Int) := by omega
      have hk3 : (k : Int) < ((n + 1 : Nat) : Int) := by omega
      clear hx hs4
      go_upto_region 4 with (refine wpList_load_cells rfl tO (.tmp 16) rfl ⟨b, off + k * 4, none⟩ rfl _ _ HR.out Tryd.underlying32 rfl hlenO ?_)
      obtain ⟨w8, g8, e1, e2, hb8, h8⟩ := obox1 wr x
      rw [e1, e2]
      have HB8 := Lib.hid (HB.out.trans (hb8.mono hsz))
      have hbt := HB3.out.trans (HB8.out.mono HB3.out.size)
      have HM1 := Lib.hid (HM1'.out.below hbt)
      have HM2 := Lib.hid (HM2'.out.below hbt)
      have H8 := Lib.hid h8
      clear e1 e2 hb8 h8 hbt z0 z1 hk1 hk2 hk3
      refine wp_region_drawn 22 21 (by kernel_rfl) (by kernel_rfl) (fun w1 w2 => Below w1.heap.size w1 w2) (fun w1 => Below w8.heap.size w8 w1)
        (fun i v w1 => match i with
          | 0 => v = .pointer (some ⟨p, 0, none⟩)
          | 1 => v = .pointer (some ⟨g8, 1, none⟩)
          | 2 => v = .int .i64 x.p.owner
          | 3 => OwnN w1 w8.heap.size tNL v (heldP t x.p.owner)
          | 4 => v = .pointer (some ⟨p2, 0, none⟩)
          | 5 => v = .pointer (some ⟨g8, 1, none⟩)
          | 6 => v = .int .i64 x.p.owner
          | 7 => OwnN w1 w8.heap.size tNL v (heldP t x.p.owner)
          | 8 => v = .bool true
          | 9 => v = .bool false
          | 10 => v = .bool false
          | 11 => v = .pointer (some ⟨p, 0, none⟩)
          | 12 => v = .pointer (some ⟨g8, 1, none⟩)
          | 13 => v = .int .i64 x.p.owner
          | 14 => OwnI w1 w8.heap.size v (blocksP t x.p.owner)
          | 15 => v = .pointer (some ⟨p2, 0, none⟩)
          | 16 => v = .pointer (some ⟨g8, 1, none⟩)
          | 17 => v = .int .i64 x.p.owner
          | 18 => OwnI w1 w8.heap.size v (blocksP t x.p.owner)
          | 19 => v = .bool true
          | 20 => v = .bool false
          | _ => True) (fun w1 w2 h1 h2 => h1.trans (h2.mono h1.size)) ?_ ((Below.refl _ _).drew) ?_ ?_
      · intro i v w1 w2 hf hR
        match i, hf with
        | 0, hf => exact hf
        | 1, hf => exact hf
        | 2, hf => exact hf
        | 3, hf => exact hf.below hR
        | 4, hf => exact hf
        | 5, hf => exact hf
        | 6, hf => exact hf
        | 7, hf => exact hf.below hR
        | 8, hf => exact hf
        | 9, hf => exact hf
        | 10, hf => exact hf
        | 11, hf => exact hf
        | 12, hf => exact hf
        | 13, hf => exact hf
        | 14, hf => exact hf.below hR
        | 15, hf => exact hf
        | 16, hf => exact hf
        | 17, hf => exact hf
        | 18, hf => exact hf.below hR
        | 19, hf => exact hf
        | 20, hf => exact hf
        | k + 21, _ => trivial
      · simp only [List.take_succ_cons, List.take_zero, putAll, Act.put, List.setIfInBounds_toArray, List.set_cons_succ, List.set_cons_zero, Nat.zero_add, Nat.reduceAdd]
        refine allOps_cons ?_ (allOps_cons ?_ (allOps_cons ?_ (allOps_cons ?_ (allOps_cons ?_ (allOps_cons ?_ (allOps_cons ?_ (allOps_cons ?_ (allOps_cons ?_ (allOps_cons ?_ (allOps_cons ?_ (allOps_cons ?_ (allOps_cons ?_ (allOps_cons ?_ (allOps_cons ?_ (allOps_cons ?_ (allOps_cons ?_ (allOps_cons ?_ (allOps_cons ?_ (allOps_cons ?_ (allOps_cons ?_ allOps_nil))))))))))))))))))))
        · intro u w1 hC hd K hK
          go_simp
          exact hK _ _ (Below.refl _ _) rfl
        · intro u w1 hC hd K hK
          go_simp
          exact hK _ _ (Below.refl _ _) rfl
        · intro u w1 hC hd K hK
          have h1 : u 1 = .pointer (some ⟨g8, 1, none⟩) := hd 1 rfl
          have y1 := (obox (H8.out.below hC)).2.1
          simp only [h1] at hK ⊢
          go_simp
          exact hK _ _ (Below.refl _ _) rfl
        · intro u w1 hC hd K hK
          have h0 : u 0 = .pointer (some ⟨p, 0, none⟩) := hd 0 rfl
          have h2 : u 2 = .int .i64 x.p.owner := hd 2 rfl
          simp only [h0, h2] at hK ⊢
          go_simp
          refine (clHeld B p t F x.p.owner w1 (HM1.out.below hC) (by omega) HGH.out).mono ?_
          rintro e w2 ⟨v, rfl, ho, hb⟩
          exact hK _ _ hb (World.ownsRow.mono ho hC.size)
        · intro u w1 hC hd K hK
          go_simp
          exact hK _ _ (Below.refl _ _) rfl
        · intro u w1 hC hd K hK
          go_simp
          exact hK _ _ (Below.refl _ _) rfl
        · intro u w1 hC hd K hK
          have h5 : u 5 = .pointer (some ⟨g8, 1, none⟩) := hd 5 rfl
          have y1 := (obox (H8.out.below hC)).2.1
          simp only [h5] at hK ⊢
          go_simp
          exact hK _ _ (Below.refl _ _) rfl
        · intro u w1 hC hd K hK
          have h4 : u 4 = .pointer (some ⟨p2, 0, none⟩) := hd 4 rfl
          have h6 : u 6 = .int .i64 x.p.owner := hd 6 rfl
          simp only [h4, h6] at hK ⊢
          go_simp
          refine (clHeld B p2 t F2 x.p.owner w1 (HM2.out.below hC) (by omega) HGH.out).mono ?_
          rintro e w2 ⟨v, rfl, ho, hb⟩
          exact hK _ _ hb (World.ownsRow.mono ho hC.size)
        · intro u w1 hC hd K hK
          have h3 : OwnN w1 w8.heap.size tNL (u 3) (heldP t x.p.owner) := hd 3 rfl
          have h7 : OwnN w1 w8.heap.size tNL (u 7) (heldP t x.p.owner) := hd 7 rfl
          go_simp
          refine (sameLocks w8.heap.size w8.heap.size (u 3) (u 7) _ w1 h3 h7).mono ?_
          rintro e w2 ⟨rfl, hb⟩
          exact hK _ _ hb rfl
        · intro u w1 hC hd K hK
          have h8 : u 8 = .bool true := hd 8 rfl
          simp only [h8] at hK ⊢
          go_simp
          exact hK _ _ (Below.refl _ _) rfl
        · intro u w1 hC hd K hK
          have h9 : u 9 = .bool false := hd 9 rfl
          simp only [h9] at hK ⊢
          go_simp
          exact hK _ _ (Below.refl _ _) rfl
        · intro u w1 hC hd K hK
          have h10 : u 10 = .bool false := hd 10 rfl
          simp only [h10] at hK ⊢
          go_simp
          exact hK _ _ (Below.refl _ _) rfl
        · intro u w1 hC hd K hK
          have h10 : u 10 = .bool false := hd 10 rfl
          simp only [h10] at hK ⊢
          go_simp
          exact hK _ _ (Below.refl _ _) rfl
        · intro u w1 hC hd K hK
          have h10 : u 10 = .bool false := hd 10 rfl
          have h12 : u 12 = .pointer (some ⟨g8, 1, none⟩) := hd 12 rfl
          have y1 := (obox (H8.out.below hC)).2.1
          simp only [h10, h12] at hK ⊢
          go_simp
          exact hK _ _ (Below.refl _ _) rfl
        · intro u w1 hC hd K hK
          have h10 : u 10 = .bool false := hd 10 rfl
          have h11 : u 11 = .pointer (some ⟨p, 0, none⟩) := hd 11 rfl
          have h13 : u 13 = .int .i64 x.p.owner := hd 13 rfl
          simp only [h10, h11, h13] at hK ⊢
          go_simp
          refine (clBlocks B p t F x.p.owner w1 (HM1.out.below hC) (by omega)).mono ?_
          rintro e w2 ⟨v, rfl, ho, hb⟩
          exact hK _ _ hb (World.ownsRow.mono ho hC.size)
        · intro u w1 hC hd K hK
          have h10 : u 10 = .bool false := hd 10 rfl
          simp only [h10] at hK ⊢
          go_simp
          exact hK _ _ (Below.refl _ _) rfl
        · intro u w1 hC hd K hK
          have h10 : u 10 = .bool false := hd 10 rfl
          simp only [h10] at hK ⊢
          go_simp
          exact hK _ _ (Below.refl _ _) rfl
        · intro u w1 hC hd K hK
          have h10 : u 10 = .bool false := hd 10 rfl
          have h16 : u 16 = .pointer (some ⟨g8, 1, none⟩) := hd 16 rfl
          have y1 := (obox (H8.out.below hC)).2.1
          simp only [h10, h16] at hK ⊢
          go_simp
          exact hK _ _ (Below.refl _ _) rfl
        · intro u w1 hC hd K hK
          have h10 : u 10 = .bool false := hd 10 rfl
          have h15 : u 15 = .pointer (some ⟨p2, 0, none⟩) := hd 15 rfl
          have h17 : u 17 = .int .i64 x.p.owner := hd 17 rfl
          simp only [h10, h15, h17] at hK ⊢
          go_simp
          refine (clBlocks B p2 t F2 x.p.owner w1 (HM2.out.below hC) (by omega)).mono ?_
          rintro e w2 ⟨v, rfl, ho, hb⟩
          exact hK _ _ hb (World.ownsRow.mono ho hC.size)
        · intro u w1 hC hd K hK
          have h10 : u 10 = .bool false := hd 10 rfl
          have h14 : OwnI w1 w8.heap.size (u 14) (blocksP t x.p.owner) := hd 14 rfl
          have h18 : OwnI w1 w8.heap.size (u 18) (blocksP t x.p.owner) := hd 18 rfl
          simp only [h10] at hK ⊢
          go_simp
          refine (sameInts w8.heap.size w8.heap.size (u 14) (u 18) _ w1 h14 h18).mono ?_
          rintro e w2 ⟨rfl, hb⟩
          exact hK _ _ hb rfl
        · intro u w1 hC hd K hK
          have h10 : u 10 = .bool false := hd 10 rfl
          have h19 : u 19 = .bool true := hd 19 rfl
          simp only [h10, h19] at hK ⊢
          go_simp
          exact hK _ _ (Below.refl _ _) rfl
      · intro u w1 hC hf
        have h10 : u 10 = .bool false := hf 10 (by omega)
        have h20 : u 20 = .bool false := hf 20 (by omega)
        simp only [List.take_succ_cons, List.take_zero, List.drop_succ_cons, List.drop_zero, putAll, Act.put, List.setIfInBounds_toArray, List.set_cons_succ, List.set_cons_zero, Nat.zero_add, Nat.reduceAdd, h10, h20]
        have HB9 := Lib.hid (HB8.out.trans (hC.mono HB8.out.size))
        clear hC hf h10 h20
        go_wp2
        go_roundw
        case rel => exact ⟨k + 1, hlt, by simp, HB9.out⟩
        case measure => dsimp only [intOf]; omega
    · have hkn : k = n + 1 := by omega
      have hk1 : ¬ (k : Int) < (n : Int) + 1 := by omega
      have hk3 : ¬ (k : Int) < ((n + 1 : Nat) : Int) := by omega
      clear z0 z1
      have hbt := HB3.out.trans (HB.out.mono HB3.out.size)
      have HBT := Lib.hid hbt
      have HM1 := Lib.hid (HM1'.out.below hbt)
      have HM2 := Lib.hid (HM2'.out.below hbt)
      clear hbt
      go_wp2_with fail
      refine (clWaitT B p t F wr HM1.out (by omega)).mono ?_
      rintro e w5 ⟨v5, rfl, ho5, hb5⟩
      have HO5 := Lib.hid ho5
      have HB5 := Lib.hid hb5
      clear ho5 hb5
      go_wp2_with fail
      refine (clWaitT B p2 t F2 w5 (HM2.out.below HB5.out) (by omega)).mono ?_
      rintro e w6 ⟨v6, rfl, ho6, hb6⟩
      have HO6 := Lib.hid ho6
      have HB6 := Lib.hid hb6
      clear ho6 hb6
      go_wp2_with fail
      refine (sameInts _ _ v5 v6 _ w6 (HO5.out.below HB6.out) HO6.out).mono ?_
      rintro e w7 ⟨rfl, hb7⟩
      have HB7 := Lib.hid (HBT.out.trans ((HB5.out.trans ((HB6.out.trans (hb7.mono HB6.out.size)).mono HB5.out.size)).mono HBT.out.size))
      clear hb7
      go_wp2
      go_ret
      exact ⟨rfl, HB7.out⟩
end Go.Proofs.YtojbddcbnnbklaaDoor
