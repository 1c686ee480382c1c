/- slices.DeleteFunc at locks, for a closure with two captured boxes that lie outside the row. Retained and Export: the held locks of a system, by a closure that asks the facility. -/
import Derived.Test.YtjklhiifjnmedaaLkDelG
import Derived.Test.YtjklhiifjnmedaaCmD
namespace Go.Proofs.Ytjklhiifjnmedaa
open Go.RowKit P16 P46
attribute [local go_sem] ByteArray.mk_append_mk ByteArray.extract_mk mk_index

/-- A closure that captured the boxes at blocks b and c. -/
def clo2 (g b c : Nat) : Value := .func (.func g) #[] #[.pointer (some ⟨b, 0, none⟩), .pointer (some ⟨c, 0, none⟩)]
/-- The closure answers f at the locks 'ls', whatever becomes of the row. -/
structure Asks2 (g b c : Nat) (f : Lock → Bool) (ls : List Lock) (w : World) (row : Option Nat) : Prop where
  known : ∀ (args : Array Value) (W : World), Sem.run Try.prog (callFunc g args) W = .ok (.enter g args) W
  ask : ∀ (l : Lock) (W : World), l ∈ ls → w.grownBy W row → Calls Try.prog g #[lv l, .pointer (some ⟨b, 0, none⟩), .pointer (some ⟨c, 0, none⟩)] W fun e W' => e = .returned (.bool (f l)) ∧ Below W.heap.size W W'
set_option maxRecDepth 100000 in
set_option maxHeartbeats 400000 in
theorem cfIndexFuncL (g b0 c0 : Nat) (row : Option Nat) (f : Lock → Bool) (A : Option Addr) (n c : Nat) (ls : List Lock) (w : World) (h : LocksAt w A n ls) (hn : n ≤ 1000000) (hf : Asks2 g b0 c0 f ls w row) :
    Calls Try.prog 50 #[.slice A n c, clo2 g b0 c0] w fun e w' => e = .returned (.int .i64 (fIdx f ls)) ∧ Below w.heap.size w w' := by
  have H := Lib.hid h
  have HF := Lib.hid hf
  clear h hf
  have hlenL : (Try.prog.info? 25).map (·.size) = some 6 := by kernel_rfl
  go_enter Try.func50, Try.ntmps50
  go_wp2
  go_loopw [8] (fun i wr => ∃ k : Nat, k ≤ n ∧ i = .int .i64 k ∧ Hid (∀ j, j < k → ∀ l, ls[j]? = some l → f l = false) ∧ Below w.heap.size w wr) (fun i _ => n - (intOf i).toNat)
  case atStart => exact ⟨0, Nat.zero_le _, rfl, fun j hj => absurd hj (by omega), Below.refl _ _⟩
  case round =>
    obtain ⟨k, hk, rfl, hall, hbw⟩ := hrel
    have hsz := hbw.size
    by_cases hlt : k < n
    · have HW := Lib.hid (H.out.below hbw)
      obtain ⟨b, off, l, rfl, hl, -⟩ := HW.out.at_ hlt
      have HL := Lib.hid hl
      have HR := Lib.hid (HW.out.row hl)
      clear hl
      have hkn := HF.out.known
      unfold clo2
      go_wp2_with (refine wpList_load_cells rfl 25 (.tmp 14) rfl ⟨b, off + k * 6, none⟩ rfl _ _ HR.out Try.underlying25 rfl hlenL ?_)
      refine (HF.out.ask l _ (List.mem_iff_getElem?.2 ⟨k, HL.out⟩) (grown_of_below row hbw)).mono ?_
      rintro e w2 ⟨rfl, hb2⟩
      have HB2 := Lib.hid (hbw.trans (hb2.mono hsz))
      clear hb2
      cases hfl : f l with
      | true =>
        have HO := Lib.hid (fIdx_some HL.out hfl hall.out)
        clear hfl
        go_wp2
        go_ret
        exact ⟨by rw [HO.out]; rfl, HB2.out⟩
      | false =>
        have HFL := Lib.hid hfl
        clear hfl
        go_wp2
        go_roundw
        case rel =>
          refine ⟨k + 1, by omega, by go_num, ?_, HB2.out⟩
          intro j hj l2 hl2
          by_cases hjk : j = k
          · subst hjk
            rw [HL.out] at hl2
            injection hl2 with e
            rw [← e]
            exact HFL.out
          · exact hall.out j (by omega) l2 hl2
        case measure => simp [intOf]; omega
    · have HO := Lib.hid (fIdx_none (f := f) (ls := ls) fun j l hl => hall.out j (by have := H.out.len; have := (List.getElem?_eq_some_iff.1 hl).1; omega) l hl)
      go_wp2
      go_ret
      exact ⟨by rw [HO.out]; rfl, hbw⟩
set_option maxRecDepth 100000 in
set_option maxHeartbeats 1000000 in
theorem cfDeleteFunc_none (g0 b0 c0 : Nat) (f : Lock → Bool) (B : Nat) (v : Value) (ls : List Lock) (w : World) (hown : OwnL w B 25 v ls) (hn : ls.length ≤ 1000000) (hf : Asks2 g0 b0 c0 f ls w v.ownBlock) (hi : ls.findIdx? f = none) :
    Calls Try.prog 29 #[v, clo2 g0 b0 c0] w fun e w' => e = .returned v ∧ Below w.heap.size w w' := by
  obtain ⟨A, c, rfl, hs, -⟩ := hown.cells
  have HS := Lib.hid hs
  have HF := Lib.hid hf
  have HI := Lib.hid (show fIdx f ls = -1 from by unfold fIdx; rw [hi])
  clear hs hf hi hown
  unfold clo2
  go_enter Try.func29, Try.ntmps29
  go_wp2_with fail
  refine (cfIndexFuncL g0 b0 c0 _ f _ _ _ ls _ HS.out hn HF.out).mono ?_
  rintro e w2 ⟨rfl, hb2⟩
  rw [HI.out]
  go_wp2
  go_ret
  exact ⟨rfl, hb2⟩
set_option maxRecDepth 100000 in
set_option maxHeartbeats 2000000 in
theorem cfDeleteFunc_some (g0 b0 c0 : Nat) (f : Lock → Bool) (B g n cap : Nat) (ls : List Lock) (w : World) (hown : OwnL w B 25 (.slice (some ⟨g, 0, none⟩) n cap) ls) (hn : n ≤ 1000000) (hf : Asks2 g0 b0 c0 f ls w (some g)) (k0 : Nat) (hi : ls.findIdx? f = some k0) :
    Calls Try.prog 29 #[.slice (some ⟨g, 0, none⟩) n cap, clo2 g0 b0 c0] w fun e w' => ∃ m, e = .returned (.slice (some ⟨g, 0, none⟩) m cap) ∧ OwnL w' B 25 (.slice (some ⟨g, 0, none⟩) m cap) (kept f ls) ∧ w.grownBy w' (some g) := by
  have hcap := hown.cap
  have hln : ls.length = n := by
    obtain ⟨cur, _, _, h3, _⟩ := hown.blk
    exact h3.symm
  obtain ⟨l0, hl0, hk0⟩ := kept_some hi
  have hk0n : k0 < n := by
    have := (List.getElem?_eq_some_iff.1 hl0).1
    omega
  have hs : LocksAt w (some ⟨g, 0, none⟩) n ls := by
    obtain ⟨A9, c9, h9, hq9, -⟩ := hown.cells
    injection h9 with h91 h92 h93
    subst h91
    rw [hln] at hq9
    exact hq9
  have HS := Lib.hid hs
  have HF := Lib.hid hf
  have HLN := Lib.hid hln
  have HI := Lib.hid (show fIdx f ls = k0 from by unfold fIdx; rw [hi])
  have HD0 := Lib.hid (show ∀ w2, Below w.heap.size w w2 → DInv w w2 B g n cap f ls k0 (k0 + 1) [l0] from fun w2 hb => by
    refine ⟨?_, grown_of_below _ hb, by rw [hk0]; simp; omega, by simp⟩
    rw [hk0]
    have e : ls.take k0 ++ [l0] ++ ls.drop (k0 + 1) = ls := by
      rw [← take_snoc hl0, List.take_append_drop]
    rw [e]
    exact hown.below hb)
  clear hs hf hi hown hl0 hk0 hln
  have hlenL : (Try.prog.info? 25).map (·.size) = some 6 := by kernel_rfl
  unfold clo2
  go_enter Try.func29, Try.ntmps29
  go_wp2_with fail
  refine (cfIndexFuncL g0 b0 c0 _ f _ _ _ ls _ HS.out hn HF.out).mono ?_
  rintro e w2 ⟨rfl, hb2⟩
  rw [HI.out]
  have HD := Lib.hid (HD0.out w2 hb2)
  clear hb2 HD0 HI HS
  have hb0 : ((k0 : Int) == -1) = false := beq_not (by omega)
  go_wp2
  have hkn := HF.out.known
  go_loopw [5, 6] (fun iv jv wr => ∃ (i j : Nat) (X : List Lock), j ≤ n ∧ iv = .int .i64 i ∧ jv = .int .i64 j ∧ DInv w wr B g n cap f ls i j X) (fun _ jv _ => n - (intOf jv).toNat)
  case atStart => exact ⟨k0, k0 + 1, _, by omega, rfl, by go_num, HD.out⟩
  case round =>
    obtain ⟨i, j, X, hj, rfl, rfl, hin⟩ := hrel
    have HIN := Lib.hid hin
    have hsum := hin.sum HLN.out hj
    have hx := hin.some_
    clear hin
    by_cases hlt : j < n
    · obtain ⟨l, hl⟩ : ∃ l, ls[j]? = some l := ⟨_, List.getElem?_eq_getElem (by rw [HLN.out]; exact hlt)⟩
      have HL := Lib.hid hl
      have HR := Lib.hid (HIN.out.row HLN.out hl)
      clear hl
      go_upto_region 8 with (refine wpList_load_cells rfl 25 (.tmp 24) rfl ⟨g, j * 6, none⟩ rfl _ _ HR.out Try.underlying25 rfl hlenL ?_)
      obtain ⟨w4, g4, e1, e2, hb4, h4⟩ := boxes1 wr 25 (la l)
      unfold la at e1
      rw [e1, e2]
      have HIN4 := Lib.hid (HIN.out.next hb4)
      have HC4 := Lib.hid h4.add
      have HB4 := Lib.hid h4
      clear e1 e2 hb4 h4
      go_wp2_with (refine wpList_load_cells rfl 25 (.tmp 7) rfl ⟨g4, 0, none⟩ rfl _ _ HC4.out Try.underlying25 rfl hlenL ?_)
      refine (HF.out.ask l _ (List.mem_iff_getElem?.2 ⟨j, HL.out⟩) HIN4.out.grown).mono ?_
      rintro e w5 ⟨rfl, hb5⟩
      have HIN5 := Lib.hid (HIN4.out.next hb5)
      have HC5 := Lib.hid (HB4.out.below hb5).add
      clear hb5
      cases hfl : f l with
      | true =>
        have HN := Lib.hid (HIN5.out.skip HL.out hfl)
        clear hfl
        go_wp2
        go_roundw
        case rel => exact ⟨i, j + 1, _, by omega, rfl, by go_num, HN.out⟩
        case measure => simp [intOf]; omega
      | false =>
        obtain ⟨X', hN⟩ := HIN5.out.keep HL.out hfl
        have HN := Lib.hid (show DInv w (w5.setCells g (i * 6) (la l).toList) B g n cap f ls (i + 1) (j + 1) X' from hN)
        obtain ⟨cur, hblk, hsz, -⟩ := HIN5.out.own.blk
        have HTH := Lib.hid (hblk.there (o := i * 6) (n := (la l).size) (by rw [hsz]; simp [la]; omega))
        clear hfl hN hblk hsz
        go_wp2_with (first | (refine wpList_load_cells rfl 25 (.tmp 7) rfl ⟨g4, 0, none⟩ rfl _ _ HC5.out Try.underlying25 rfl hlenL ?_) | (refine wpList_store_mid rfl 25 (.tmp 33) (.tmp 32) rfl g (i * 6) (la l) rfl rfl HTH.out hlenL (la_all l) ?_; generalize w5.setCells g (i * 6) (la l).toList = w6 at HN ⊢))
        go_roundw
        case rel => exact ⟨i + 1, j + 1, X', by omega, by go_num, by go_num, HN.out⟩
        case measure => simp [intOf]; omega
    · have hjn : j = n := by omega
      subst hjn
      have HO := Lib.hid (show OwnL wr B 25 (.slice (some ⟨g, 0, none⟩) i cap) (kept f ls) from by
        have ho := HIN.out.own
        have e1 : ls.take j = ls := List.take_of_length_le (by rw [HLN.out]; exact Nat.le_refl _)
        have hl := HIN.out.len
        rw [e1] at ho hl
        rw [List.append_assoc] at ho
        have := ho.front
        rw [hl] at this
        exact this)
      obtain ⟨cur, hblk, hsz, -⟩ := HIN.out.own.blk
      have HB := Lib.hid hblk
      have HSZ := Lib.hid hsz
      have HZV := Lib.hid (show ∀ w, (zeroValue 25).run Try.prog w = .ok (.agg #[.int .i64 0, .int .i64 0, .string ⟨#[]⟩, .string ⟨#[]⟩, .bool false, .bool false]) w from fun _ => by kernel_rfl)
      have hij : i < j := by omega
      have hci : ¬ cap = i := by omega
      clear hblk hsz hsum hx HD hj hlt hkn
      go_wp2_with (refine wpList_clear_row rfl (.tmp 38) _ rfl 25 _ 6 Try.underlying47 HZV.out rfl z_one g (i * 6) (j - i) (cap - i) _ _ rfl HB.out (by rw [HSZ.out]; omega) ?_; intro zs hzs)
      go_ret
      exact ⟨i, rfl, HO.out.tail (Nat.le_refl _) (by omega), grown_trans HIN.out.grown (grownBy_setCells (g := g) wr (i * 6) zs)⟩
/-- Those that stay, in the row that there was. -/
theorem cfDeleteFunc (g0 b0 c0 : Nat) (f : Lock → Bool) (B : Nat) (v : Value) (ls : List Lock) (w : World) (hown : OwnL w B 25 v ls) (hn : ls.length ≤ 1000000) (hf : Asks2 g0 b0 c0 f ls w v.ownBlock) :
    Calls Try.prog 29 #[v, clo2 g0 b0 c0] w fun e w' => ∃ v', e = .returned v' ∧ OwnL w' B 25 v' (kept f ls) ∧ w.grownBy w' v.ownBlock ∧ v'.ownBlock = v.ownBlock := by
  cases hi : ls.findIdx? f with
  | none =>
    refine (cfDeleteFunc_none g0 b0 c0 f B v ls w hown hn hf hi).mono ?_
    rintro e w' ⟨rfl, hb⟩
    exact ⟨v, rfl, by rw [kept_none hi]; exact hown.below hb, grown_of_below _ hb, rfl⟩
  | some k =>
    rcases hown.val with ⟨rfl, rfl⟩ | ⟨g, cap, rfl⟩
    · simp at hi
    · refine (cfDeleteFunc_some g0 b0 c0 f B g _ cap ls w hown hn hf k hi).mono ?_
      rintro e w' ⟨m, rfl, ho, hg⟩
      exact ⟨_, rfl, ho, hg, rfl⟩
end Go.Proofs.Ytjklhiifjnmedaa
namespace Go.Proofs.Ytjklhiifjnmedaa
open Go.RowKit Go.Maps P16 P46
attribute [local go_sem] ByteArray.mk_append_mk ByteArray.extract_mk mk_index

theorem boxesT (w : World) (t u : TypeId) (cs ds : Array Value) : ∃ (w2 : World) (p q : Nat), (w.alloc (.cells cs t)).alloc (.cells ds u) = w2 ∧ w.heap.size = p ∧ w.heap.size + 1 = q ∧ Below w.heap.size w w2 ∧ Blk w2 p t cs ∧ Blk w2 q u ds := by
  refine ⟨_, _, _, rfl, rfl, rfl, below_alloc (below_alloc (Below.refl _ _) _) _, (Blk.new w t cs).alloc _, ?_⟩
  have := Blk.new (w.alloc (.cells cs t)) u ds
  rwa [World.size_alloc] at this
theorem valid_num52 {l : Lock} (h : validL l = true) : numB l.unit = true := by
  unfold validL at h
  simp only [Bool.and_eq_true] at h
  exact h.1.1.1.1
set_option maxRecDepth 100000 in
set_option maxHeartbeats 1000000 in
theorem cfRetained1 (l : Lock) (hu : InR l.unit) (k : Int) (b p nb gb gk : Nat) (F : P52.Fs) (w : World) (h : Blk w b tF (fcs F p nb)) (h1 : Blk w gb 33 #[.pointer (some ⟨b, 0, none⟩)]) (h2 : Blk w gk 3 #[.int .i64 k]) :
    Calls Try.prog 43 #[lv l, .pointer (some ⟨gb, 0, none⟩), .pointer (some ⟨gk, 0, none⟩)] w fun e w' => e = .returned (.bool !P52.gone F l.unit k) ∧ Below w.heap.size w w' := by
  have HX := Lib.hid h
  have HX1 := Lib.hid h1
  have HX2 := Lib.hid h2
  have HU := Lib.hid hu
  clear h h1 h2 hu
  unfold lv
  go_enter Try.func43, Try.ntmps43
  go_upto_region 1 with (fail)
  obtain ⟨w1, g, e1, e2, hb, hx⟩ := boxes1 w 25 (la l)
  unfold la at e1
  rw [e1, e2]
  have HB := Lib.hid hb
  have hc1 := (HX1.out.below hb).cell 0
  have hc2 := (HX2.out.below hb).cell 0
  simp at hc1 hc2
  have HF := Lib.hid (HX.out.below hb)
  obtain ⟨a0, -, -, -, -, -⟩ := lcells hx
  clear e1 e2 hb hx
  go_wp2_with (go_at_call 40; refine (cfGone l.unit k HU.out b p nb F _ HF.out).mono ?_; rintro e w2 ⟨rfl, hb2⟩; have HB2 := Lib.hid (below_then HB.out hb2); clear hb2)
  go_ret
  exact ⟨rfl, HB2.out⟩
theorem asksRetained (ls : List Lock) (hls : ∀ l ∈ ls, InR l.unit) (k : Int) (b p nb gb gk : Nat) (F : P52.Fs) (w : World) (row : Option Nat) (h : Blk w b tF (fcs F p nb)) (h1 : Blk w gb 33 #[.pointer (some ⟨b, 0, none⟩)]) (h2 : Blk w gk 3 #[.int .i64 k]) (hr : ∀ x, row = some x → x ≠ b ∧ x ≠ gb ∧ x ≠ gk) :
    Asks2 43 gb gk (fun l => !P52.gone F l.unit k) ls w row where
  known := fun args W => by kernel_rfl
  ask := fun l W hl hW => cfRetained1 l (hls l hl) k b p nb gb gk F W (h.grown hW (fun e => (hr b e.symm).1 rfl)) (h1.grown hW (fun e => (hr gb e.symm).2.1 rfl)) (h2.grown hW (fun e => (hr gk e.symm).2.2 rfl))
set_option maxRecDepth 100000 in
set_option maxHeartbeats 1000000 in
theorem cfRetained (k : Int) (B b : Nat) (F : P52.Fs) (S : Nat → Prop) (w : World) (n : Nat) (hf : Fac w B b F S) (ok : P52.Ok F n) (hn : n < 90000) :
    Calls Try.prog 22 #[.pointer (some ⟨b, 0, none⟩), .int .i64 k] w fun e w' => ∃ v, e = .returned v ∧ OwnL w' w.heap.size 25 v (P52.retained F k) ∧ Below w.heap.size w w' := by
  obtain ⟨p, nb, vh, vq, h, -⟩ := hf
  have HF := Lib.hid h
  have HOK := Lib.hid ok
  have HN := Lib.hid hn
  have HK := Lib.hid (show kept (fun l => !P52.gone F l.unit k) F.s.h = P52.retained F k from by unfold kept P52.retained; simp)
  clear h ok hn
  go_enter Try.func22, Try.ntmps22
  go_upto_region 1 with (fail)
  obtain ⟨w1, gb, gk, e1, e2, e3, hb, h1, h2⟩ := boxesT w 33 3 #[.pointer (some ⟨b, 0, none⟩)] #[.int .i64 k]
  rw [e1, e3, e2]
  have HB1 := Lib.hid hb
  have HF1 := Lib.hid (HF.out.below hb)
  have HG1 := Lib.hid (And.intro h1 h2)
  have HGE := Lib.hid (show gb < w1.heap.size ∧ gk < w1.heap.size ∧ b < w1.heap.size from ⟨h1.lt, h2.lt, (HF.out.below hb).box.lt⟩)
  have hc0 := h1.cell 0
  simp at hc0
  have hc10 := HF1.out.box.cell 10
  simp [fcs] at hc10
  clear e1 e2 e3 hb h1 h2
  go_wp2_with (first | (go_at_call 38; refine (lkAll B p _ _ vh vq w1 HF1.out.mgr (by have h := HOK.out.len; have h2 := HN.out; omega)).mono ?_; rintro e w2 ⟨v1, v2, rfl, ho1, -, -, hb2⟩; have HO1 := Lib.hid ho1; have HB2 := Lib.hid (below_then HB1.out hb2); have HF2 := Lib.hid (HF1.out.below hb2); have HG2 := Lib.hid (And.intro (HG1.out.1.below hb2) (HG1.out.2.below hb2)); clear ho1 hb2 hc0 hc10) | (go_at_call 29; refine (cfDeleteFunc 43 gb gk (fun l => !P52.gone F l.unit k) w1.heap.size v1 F.s.h w2 HO1.out (by have h := HOK.out.len; have h2 := HN.out; omega) (asksRetained F.s.h (fun l hl => InR.num (valid_num52 (HOK.out.valids.1 l hl))) k b p nb gb gk F w2 _ HF2.out.box HG2.out.1 HG2.out.2 (fun x hx => by have h1 := (HO1.out.lt x hx).1; have h2 := HGE.out; omega))).mono ?_; rintro e w3 ⟨v3, rfl, ho3, hg3, -⟩; have HO3 := Lib.hid ho3; have HB3 := Lib.hid (HB2.out.grown hg3 HB2.out.size (fun x hx => Nat.le_trans HB1.out.size (HO1.out.lt x hx).1)); clear ho3 hg3))
  go_ret
  refine ⟨v3, rfl, ?_, HB3.out⟩
  have ho := HO3.out
  rw [HK.out] at ho
  exact ho.base HB1.out.size
end Go.Proofs.Ytjklhiifjnmedaa
