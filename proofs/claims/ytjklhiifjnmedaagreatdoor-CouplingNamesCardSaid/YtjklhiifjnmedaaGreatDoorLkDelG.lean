/- The walk of slices.DeleteFunc at locks. -/
import Derived.Test.YtjklhiifjnmedaaGreatDoorLkDelF
namespace Go.Proofs.YtjklhiifjnmedaaGreatDoor
open Go.RowKit P16 P46
attribute [local go_sem] ByteArray.mk_append_mk ByteArray.extract_mk mk_index

theorem DInv.sum {w wr : World} {B g n cap i j : Nat} {f : Lock → Bool} {ls X : List Lock} (h : DInv w wr B g n cap f ls i j X) (hl : ls.length = n) (hj : j ≤ n) : i + X.length = j := by
  obtain ⟨cur, _, _, h3, _⟩ := h.own.blk
  simp [h.len] at h3
  omega
theorem DInv.row {w wr : World} {B g n cap i j : Nat} {f : Lock → Bool} {ls X : List Lock} {l : Lock} (h : DInv w wr B g n cap f ls i j X) (hn : ls.length = n) (hl : ls[j]? = some l) :
    ∀ (k : Nat) (u : Value), (#[.int .i64 l.unit, .int .i64 l.id, .string ⟨l.r.low.toArray⟩, .string ⟨l.r.high.toArray⟩, .bool l.r.e, .bool l.x] : Array Value)[k]? = some u → wr.cell? ((⟨g, j * 6, none⟩ : Addr).add k) = some u := by
  have hj : j < n := by
    have := (List.getElem?_eq_some_iff.1 hl).1
    omega
  have hs := h.sum hn (by omega)
  obtain ⟨A9, c9, h9, hq9, -⟩ := h.own.cells
  injection h9 with h91 h92 h93
  subst h91
  have e : (kept f (ls.take j) ++ X ++ ls.drop j)[j]? = some l := by
    rw [List.getElem?_append_right (by rw [List.length_append, h.len]; omega), List.length_append, h.len, hs, Nat.sub_self, List.getElem?_drop, Nat.add_zero, hl]
  intro k u hk
  have := hq9.row e k u hk
  simpa using this
set_option maxRecDepth 100000 in
set_option maxHeartbeats 1000000 in
theorem lkDeleteFunc_none (g0 b0 : Nat) (f : Lock → Bool) (B : Nat) (v : Value) (ls : List Lock) (w : World) (hown : OwnL w B 46 v ls) (hn : ls.length ≤ 1000000) (hf : AsksG g0 b0 f w v.ownBlock) (hi : ls.findIdx? f = none) :
    Calls Tryz.prog 43 #[v, clo g0 b0] w fun e w' => e = .returned v ∧ Below w.heap.size w w' := by
  obtain ⟨A, c, rfl, hs, -⟩ := hown.cells
  have HS := Lib.hid hs
  have HF := Lib.hid hf
  have HI := Lib.hid (show fIdx f ls = -1 from by unfold fIdx; rw [hi])
  clear hs hf hi hown
  unfold clo
  go_enter Tryz.func43, Tryz.ntmps43
  go_wp2_with fail
  refine (lkIndexFunc g0 b0 f _ _ _ ls _ HS.out hn HF.out.asks).mono ?_
  rintro e w2 ⟨rfl, hb2⟩
  rw [HI.out]
  go_wp2
  go_ret
  exact ⟨rfl, hb2⟩
set_option maxRecDepth 100000 in
set_option maxHeartbeats 2000000 in
theorem lkDeleteFunc_some (g0 b0 : Nat) (f : Lock → Bool) (B g n cap : Nat) (ls : List Lock) (w : World) (hown : OwnL w B 46 (.slice (some ⟨g, 0, none⟩) n cap) ls) (hn : n ≤ 1000000) (hf : AsksG g0 b0 f w (some g)) (k0 : Nat) (hi : ls.findIdx? f = some k0) :
    Calls Tryz.prog 43 #[.slice (some ⟨g, 0, none⟩) n cap, clo g0 b0] w fun e w' => ∃ m, e = .returned (.slice (some ⟨g, 0, none⟩) m cap) ∧ OwnL w' B 46 (.slice (some ⟨g, 0, none⟩) m cap) (kept f ls) ∧ w.grownBy w' (some g) := by
  have hcap := hown.cap
  have hln : ls.length = n := by
    obtain ⟨cur, _, _, h3, _⟩ := hown.blk
    exact h3.symm
  obtain ⟨l0, hl0, hk0⟩ := kept_some hi
  have hk0n : k0 < n := by
    have := (List.getElem?_eq_some_iff.1 hl0).1
    omega
  have hs : LocksAt w (some ⟨g, 0, none⟩) n ls := by
    obtain ⟨A9, c9, h9, hq9, -⟩ := hown.cells
    injection h9 with h91 h92 h93
    subst h91
    rw [hln] at hq9
    exact hq9
  have HS := Lib.hid hs
  have HF := Lib.hid hf
  have HLN := Lib.hid hln
  have HI := Lib.hid (show fIdx f ls = k0 from by unfold fIdx; rw [hi])
  have HD0 := Lib.hid (show ∀ w2, Below w.heap.size w w2 → DInv w w2 B g n cap f ls k0 (k0 + 1) [l0] from fun w2 hb => by
    refine ⟨?_, grown_of_below _ hb, by rw [hk0]; simp; omega, by simp⟩
    rw [hk0]
    have e : ls.take k0 ++ [l0] ++ ls.drop (k0 + 1) = ls := by
      rw [← take_snoc hl0, List.take_append_drop]
    rw [e]
    exact hown.below hb)
  clear hs hf hi hown hl0 hk0 hln
  have hlenL : (Tryz.prog.info? 46).map (·.size) = some 6 := by kernel_rfl
  unfold clo
  go_enter Tryz.func43, Tryz.ntmps43
  go_wp2_with fail
  refine (lkIndexFunc g0 b0 f _ _ _ ls _ HS.out hn HF.out.asks).mono ?_
  rintro e w2 ⟨rfl, hb2⟩
  rw [HI.out]
  have HD := Lib.hid (HD0.out w2 hb2)
  clear hb2 HD0 HI HS
  have hb0 : ((k0 : Int) == -1) = false := beq_not (by omega)
  go_wp2
  have hkn := HF.out.known
  go_loopw [5, 6] (fun iv jv wr => ∃ (i j : Nat) (X : List Lock), j ≤ n ∧ iv = .int .i64 i ∧ jv = .int .i64 j ∧ DInv w wr B g n cap f ls i j X) (fun _ jv _ => n - (intOf jv).toNat)
  case atStart => exact ⟨k0, k0 + 1, _, by omega, rfl, by go_num, HD.out⟩
  case round =>
    obtain ⟨i, j, X, hj, rfl, rfl, hin⟩ := hrel
    have HIN := Lib.hid hin
    have hsum := hin.sum HLN.out hj
    have hx := hin.some_
    clear hin
    by_cases hlt : j < n
    · obtain ⟨l, hl⟩ : ∃ l, ls[j]? = some l := ⟨_, List.getElem?_eq_getElem (by rw [HLN.out]; exact hlt)⟩
      have HL := Lib.hid hl
      have HR := Lib.hid (HIN.out.row HLN.out hl)
      clear hl
      go_upto_region 8 with (refine wpList_load_cells rfl 46 (.tmp 24) rfl ⟨g, j * 6, none⟩ rfl _ _ HR.out Tryz.underlying46 rfl hlenL ?_)
      obtain ⟨w4, g4, e1, e2, hb4, h4⟩ := boxes1 wr 46 (la l)
      unfold la at e1
      rw [e1, e2]
      have HIN4 := Lib.hid (HIN.out.next hb4)
      have HC4 := Lib.hid h4.add
      have HB4 := Lib.hid h4
      clear e1 e2 hb4 h4
      go_wp2_with (refine wpList_load_cells rfl 46 (.tmp 7) rfl ⟨g4, 0, none⟩ rfl _ _ HC4.out Tryz.underlying46 rfl hlenL ?_)
      refine (HF.out.ask l _ HIN4.out.grown).mono ?_
      rintro e w5 ⟨rfl, hb5⟩
      have HIN5 := Lib.hid (HIN4.out.next hb5)
      have HC5 := Lib.hid (HB4.out.below hb5).add
      clear hb5
      cases hfl : f l with
      | true =>
        have HN := Lib.hid (HIN5.out.skip HL.out hfl)
        clear hfl
        go_wp2
        go_roundw
        case rel => exact ⟨i, j + 1, _, by omega, rfl, by go_num, HN.out⟩
        case measure => simp [intOf]; omega
      | false =>
        obtain ⟨X', hN⟩ := HIN5.out.keep HL.out hfl
        have HN := Lib.hid (show DInv w (w5.setCells g (i * 6) (la l).toList) B g n cap f ls (i + 1) (j + 1) X' from hN)
        obtain ⟨cur, hblk, hsz, -⟩ := HIN5.out.own.blk
        have HTH := Lib.hid (hblk.there (o := i * 6) (n := (la l).size) (by rw [hsz]; simp [la]; omega))
        clear hfl hN hblk hsz
        go_wp2_with (first | (refine wpList_load_cells rfl 46 (.tmp 7) rfl ⟨g4, 0, none⟩ rfl _ _ HC5.out Tryz.underlying46 rfl hlenL ?_) | (refine wpList_store_mid rfl 46 (.tmp 33) (.tmp 32) rfl g (i * 6) (la l) rfl rfl HTH.out hlenL (la_all l) ?_; generalize w5.setCells g (i * 6) (la l).toList = w6 at HN ⊢))
        go_roundw
        case rel => exact ⟨i + 1, j + 1, X', by omega, by go_num, by go_num, HN.out⟩
        case measure => simp [intOf]; omega
    · have hjn : j = n := by omega
      subst hjn
      have HO := Lib.hid (show OwnL wr B 46 (.slice (some ⟨g, 0, none⟩) i cap) (kept f ls) from by
        have ho := HIN.out.own
        have e1 : ls.take j = ls := List.take_of_length_le (by rw [HLN.out]; exact Nat.le_refl _)
        have hl := HIN.out.len
        rw [e1] at ho hl
        rw [List.append_assoc] at ho
        have := ho.front
        rw [hl] at this
        exact this)
      obtain ⟨cur, hblk, hsz, -⟩ := HIN.out.own.blk
      have HB := Lib.hid hblk
      have HSZ := Lib.hid hsz
      have HZV := Lib.hid (show ∀ w, (zeroValue 46).run Tryz.prog w = .ok (.agg #[.int .i64 0, .int .i64 0, .string ⟨#[]⟩, .string ⟨#[]⟩, .bool false, .bool false]) w from fun _ => by kernel_rfl)
      have hij : i < j := by omega
      have hci : ¬ cap = i := by omega
      clear hblk hsz hsum hx HD hj hlt hkn
      go_wp2_with (refine wpList_clear_row rfl (.tmp 38) _ rfl 46 _ 6 Tryz.underlying50 HZV.out rfl z_one g (i * 6) (j - i) (cap - i) _ _ rfl HB.out (by rw [HSZ.out]; omega) ?_; intro zs hzs)
      go_ret
      exact ⟨i, rfl, HO.out.tail (Nat.le_refl _) (by omega), grown_trans HIN.out.grown (grownBy_setCells (g := g) wr (i * 6) zs)⟩
/-- Those that stay, in the row that there was. -/
theorem lkDeleteFunc (g0 b0 : Nat) (f : Lock → Bool) (B : Nat) (v : Value) (ls : List Lock) (w : World) (hown : OwnL w B 46 v ls) (hn : ls.length ≤ 1000000) (hf : AsksG g0 b0 f w v.ownBlock) :
    Calls Tryz.prog 43 #[v, clo g0 b0] w fun e w' => ∃ v', e = .returned v' ∧ OwnL w' B 46 v' (kept f ls) ∧ w.grownBy w' v.ownBlock ∧ v'.ownBlock = v.ownBlock := by
  cases hi : ls.findIdx? f with
  | none =>
    refine (lkDeleteFunc_none g0 b0 f B v ls w hown hn hf hi).mono ?_
    rintro e w' ⟨rfl, hb⟩
    exact ⟨v, rfl, by rw [kept_none hi]; exact hown.below hb, grown_of_below _ hb, rfl⟩
  | some k =>
    rcases hown.val with ⟨rfl, rfl⟩ | ⟨g, cap, rfl⟩
    · simp at hi
    · refine (lkDeleteFunc_some g0 b0 f B g _ cap ls w hown hn hf k hi).mono ?_
      rintro e w' ⟨m, rfl, ho, hg⟩
      exact ⟨_, rfl, ho, hg, rfl⟩
end Go.Proofs.YtjklhiifjnmedaaGreatDoor
