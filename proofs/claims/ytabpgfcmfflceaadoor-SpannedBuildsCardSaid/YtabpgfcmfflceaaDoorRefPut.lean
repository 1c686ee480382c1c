/- The walks of the reference's form, add and put: a record put behind a block, as 'putP' says. -/
import Derived.Test.YtabpgfcmfflceaaDoorPack
import Derived.Test.YtabpgfcmfflceaaDoorTail
namespace Go.Proofs.YtabpgfcmfflceaaDoor
open Go.RowKit P12 Go.Sort
attribute [local go_sem] ByteArray.mk_append_mk ByteArray.extract_mk mk_index

set_option maxHeartbeats 1000000 in
theorem form44 (b a : Bool) (d : Bs) (hd : d.length ≤ 60000) (w : World) : Calls Tryd.prog 44 #[.agg #[.bool b, .bool a, .string ⟨d.toArray⟩]] w fun e w' => e = .returned (.string ⟨(form ⟨b, a, d⟩).toArray⟩) ∧ Below w.heap.size w w' := by
  have hv : form ⟨b, a, d⟩ = [UInt8.ofNat ((4 + (d.length : Int)) / 256).toNat, UInt8.ofNat ((4 + (d.length : Int)) % 256).toNat, UInt8.ofNat ((ixN b a : Nat) : Int).toNat, UInt8.ofNat (0 : Int).toNat] ++ d := by
    unfold form
    rw [show (4 + d.length) / 256 = ((4 + (d.length : Int)) / 256).toNat from by omega, show (4 + d.length) % 256 = ((4 + (d.length : Int)) % 256).toNat from by omega]
    cases b <;> cases a <;> rfl
  have HV := Lib.hid hv
  clear hv
  have c2 := (Blk.new w 61 #[.bool b, .bool a, .string ⟨d.toArray⟩]).cell 2
  cases b <;> cases a
  all_goals
    have hc := run_bytes4 (P := Tryd.prog) (w.alloc (.cells #[.bool false, .bool false, .string ⟨d.toArray⟩] 61)) 69 9 5 Tryd.underlying69 Tryd.underlying5 Tryd.underlying9 ((4 + (d.length : Int)) / 256) ((4 + (d.length : Int)) % 256) (ixN false false : Nat) 0 (by omega) (by omega) (by decide) (by omega)
    have hc1 := run_bytes4 (P := Tryd.prog) (w.alloc (.cells #[.bool false, .bool true, .string ⟨d.toArray⟩] 61)) 69 9 5 Tryd.underlying69 Tryd.underlying5 Tryd.underlying9 ((4 + (d.length : Int)) / 256) ((4 + (d.length : Int)) % 256) (ixN false true : Nat) 0 (by omega) (by omega) (by decide) (by omega)
    have hc2 := run_bytes4 (P := Tryd.prog) (w.alloc (.cells #[.bool true, .bool false, .string ⟨d.toArray⟩] 61)) 69 9 5 Tryd.underlying69 Tryd.underlying5 Tryd.underlying9 ((4 + (d.length : Int)) / 256) ((4 + (d.length : Int)) % 256) (ixN true false : Nat) 0 (by omega) (by omega) (by decide) (by omega)
    have hc3 := run_bytes4 (P := Tryd.prog) (w.alloc (.cells #[.bool true, .bool true, .string ⟨d.toArray⟩] 61)) 69 9 5 Tryd.underlying69 Tryd.underlying5 Tryd.underlying9 ((4 + (d.length : Int)) / 256) ((4 + (d.length : Int)) % 256) (ixN true true : Nat) 0 (by omega) (by omega) (by decide) (by omega)
    simp only [World.size_alloc, show ((ixN false false : Nat) : Int) = 0 from rfl, show ((ixN false true : Nat) : Int) = 1 from rfl, show ((ixN true false : Nat) : Int) = 2 from rfl, show ((ixN true true : Nat) : Int) = 3 from rfl] at hc hc1 hc2 hc3
    go_enter Tryd.func44, Tryd.ntmps44
    go_wp2
    go_ret
    rw [HV.out]
    exact ⟨rfl, below_alloc (below_alloc (Below.refl _ _) _) _⟩

set_option maxHeartbeats 1000000 in
theorem add40 (blk : Bs) (b a : Bool) (d : Bs) (hb : blk = [] ∨ 4 ≤ blk.length) (hl : blk.length ≤ 30000) (hd : d.length ≤ 30000) (w : World) :
    Calls Tryd.prog 40 #[.string ⟨blk.toArray⟩, .agg #[.bool b, .bool a, .string ⟨d.toArray⟩]] w fun e w' => e = .returned (.string ⟨(whole (blk.drop 4 ++ form ⟨b, a, d⟩)).toArray⟩) ∧ Below w.heap.size w w' := by
  have hfl := length_form ⟨b, a, d⟩
  have hfl2 : (form ⟨b, a, d⟩).length ≤ 30004 := by rw [hfl]; simp; omega
  clear hfl
  by_cases h0 : blk = []
  · subst h0
    have hw : (wordI (4 + ((form ⟨b, a, d⟩).length : Int))).length ≤ 4 := by rw [wordI_len]; exact length_word_le _
    have HV := Lib.hid (show whole (List.drop 4 [] ++ form ⟨b, a, d⟩) = wordI (4 + ((form ⟨b, a, d⟩).length : Int)) ++ form ⟨b, a, d⟩ from by rw [wordI_len]; rfl)
    go_enter Tryd.func40, Tryd.ntmps40
    go_wp2_with (first | (go_at_call 44; refine (form44 _ _ _ (by omega) _).mono ?_; rintro e w1 ⟨rfl, hb1⟩) | (go_at_call 34; refine (word34 _ _).mono ?_; rintro e w2 ⟨rfl, hb2⟩))
    go_ret
    rw [HV.out]
    exact ⟨rfl, below_then_ (below_then_ (below_alloc (Below.refl _ _) _) hb1) hb2⟩
  · have h4 : 4 ≤ blk.length := hb.resolve_left h0
    have he : blk.isEmpty = false := by simpa using h0
    have h4I : (4 : Int) ≤ (blk.length : Int) := by omega
    have HT := Lib.hid (show List.take (blk.length - 4) (List.drop 4 blk) = blk.drop 4 from List.take_of_length_le (by simp))
    have hwe : wordI (4 + (((blk.length - 4 : Nat) : Int) + ((form ⟨b, a, d⟩).length : Int))) = word (4 + (List.drop 4 blk ++ form ⟨b, a, d⟩).length) := by
      rw [show (4 + (((blk.length - 4 : Nat) : Int) + ((form ⟨b, a, d⟩).length : Int))) = ((4 + (List.drop 4 blk ++ form ⟨b, a, d⟩).length : Nat) : Int) from by simp, wordI_nat]
    have hw : (wordI (4 + (((blk.length - 4 : Nat) : Int) + ((form ⟨b, a, d⟩).length : Int)))).length ≤ 4 := by rw [hwe]; exact length_word_le _
    have HV := Lib.hid (show whole (List.drop 4 blk ++ form ⟨b, a, d⟩) = wordI (4 + (((blk.length - 4 : Nat) : Int) + ((form ⟨b, a, d⟩).length : Int))) ++ (List.take (blk.length - 4) (List.drop 4 blk) ++ form ⟨b, a, d⟩) from by rw [hwe, HT.out]; rfl)
    clear hwe
    clear h0 hb
    go_enter Tryd.func40, Tryd.ntmps40
    go_wp2_with (first | (go_at_call 44; refine (form44 _ _ _ (by omega) _).mono ?_; rintro e w1 ⟨rfl, hb1⟩) | (go_at_call 34; refine (word34 _ _).mono ?_; rintro e w2 ⟨rfl, hb2⟩))
    go_ret
    rw [HV.out]
    exact ⟨rfl, below_then_ (below_then_ (below_alloc (Below.refl _ _) _) hb1) hb2⟩

/-- The blocks from the last one on, where part of the record may be in it already. -/
def goQ (K : Nat) (cur : Bs) (b : Bool) (r : Bs) : List Bs := if cur = [] then tl K b r else putP K cur r
theorem goQ_start (K : Nat) (last r : Bs) : goQ K last false r = putP K last r := by
  unfold goQ
  by_cases h : last = []
  · rw [if_pos h, h]
    unfold putP addP
    simp
  · rw [if_neg h]
theorem goQ_fit {K : Nat} {cur : Bs} {b : Bool} {r : Bs} (hc : cur = [] ∨ 8 ≤ cur.length) (hb : cur ≠ [] → b = false) (h : max 4 cur.length + 4 + r.length ≤ K) : goQ K cur b r = [whole (cur.drop 4 ++ form ⟨b, false, r⟩)] := by
  unfold goQ
  by_cases h0 : cur = []
  · subst h0
    rw [if_pos rfl]
    unfold tl
    rw [parts_one (by simp at h; omega)]
    simp [block, fm]
  · have h8 := hc.resolve_left h0
    obtain rfl := hb h0
    rw [if_neg h0]
    have hA : addP K cur r = (whole (cur.drop 4 ++ form ⟨false, false, r⟩), []) := by unfold addP; rw [if_neg h0, if_pos (by omega)]
    unfold putP
    rw [hA]
    dsimp only
    rw [if_neg (whole_ne _ (by simp [form_ne]))]
    rfl
theorem goQ_part {K n : Nat} (hK : 9 ≤ K) {cur : Bs} {b : Bool} {r : Bs} (hc : cur = [] ∨ 8 ≤ cur.length) (hb : cur ≠ [] → b = false) (h : ¬ max 4 cur.length + 4 + r.length ≤ K) (h1 : max 4 cur.length + 4 + n = K) (hn : 0 < n) :
    goQ K cur b r = whole (cur.drop 4 ++ form ⟨b, true, r.take n⟩) :: goQ K [] true (r.drop n) := by
  have e0 : goQ K [] true (r.drop n) = tl K true (r.drop n) := rfl
  rw [e0]
  unfold goQ
  by_cases h0 : cur = []
  · subst h0
    rw [if_pos rfl]
    simp only [List.length_nil] at h h1
    unfold tl
    rw [parts_more hK (by omega), show K - 8 = n from by omega]
    simp [block, fm]
  · have h8 := hc.resolve_left h0
    obtain rfl := hb h0
    rw [if_neg h0]
    have hA : addP K cur r = (whole (cur.drop 4 ++ form ⟨false, true, r.take n⟩), tl K true (r.drop n)) := by
      unfold addP
      rw [if_neg h0, if_neg (by omega), if_pos (by omega), show K - (cur.length + 4) = n from by omega]
    unfold putP
    rw [hA]
    dsimp only
    rw [if_neg (whole_ne _ (by simp [form_ne]))]
    rfl
theorem goQ_next {K : Nat} {cur : Bs} {b : Bool} {r : Bs} (hK : 9 ≤ K) (hc : cur = [] ∨ 8 ≤ cur.length) (hb : cur ≠ [] → b = false) (h : ¬ max 4 cur.length + 4 + r.length ≤ K) (h1 : K ≤ max 4 cur.length + 4) :
    goQ K cur b r = cur :: goQ K [] b r := by
  have e0 : goQ K [] b r = tl K b r := rfl
  rw [e0]
  unfold goQ
  by_cases h0 : cur = []
  · subst h0
    simp only [List.length_nil] at h1
    omega
  · have h8 := hc.resolve_left h0
    obtain rfl := hb h0
    rw [if_neg h0]
    have hA : addP K cur r = ([], tl K false r) := by unfold addP; rw [if_neg h0, if_neg (by omega), if_neg (by omega)]
    unfold putP
    rw [hA]
    dsimp only
    rw [if_pos rfl, if_neg h0]
    rfl
theorem length_putP (K : Nat) (last r : Bs) : (putP K last r).length ≤ r.length + 2 := by
  have h := length_addP K last r
  unfold putP
  rw [List.length_append]
  have : (if (addP K last r).1 = [] then if last = [] then [] else [last] else [(addP K last r).1]).length ≤ 1 := by
    split
    · split <;> simp
    · simp
  omega

theorem set_last {α : Type} (l : List α) (x y : α) : (l ++ [x]).set l.length y = l ++ [y] := by simp
def Put32 (K : Nat) (last r : Bs) (w : World) (e : Ending) (w' : World) : Prop := ∃ v, e = .returned v ∧ OwnS w' w.heap.size 9 v (putP K last r) ∧ Below w.heap.size w w'

theorem OwnS.lit1 (w : World) (B : Nat) (e : TypeId) (s : Bs) (h : B ≤ w.heap.size) : OwnS (w.alloc (.cells #[.string ⟨s.toArray⟩] e)) B e (.slice (some ⟨w.heap.size, 0, none⟩) 1 1) [s] :=
  ⟨rfl, .inr ⟨w.heap.size, 1, #[.string ⟨s.toArray⟩], rfl, h, heap_alloc_new w _, Nat.le_refl _, by unfold maxLen; omega, rfl, rfl⟩⟩

set_option maxRecDepth 100000 in
set_option maxHeartbeats 2000000 in
theorem put32 (K : Nat) (last r : Bs) (w : World) (hK : 9 ≤ K ∧ K ≤ 1024) (hl : last = [] ∨ 8 ≤ last.length) (hl2 : last.length ≤ 1024) (hr : r.length ≤ 10000) :
    Calls Tryd.prog 32 #[.int .i64 K, .string ⟨last.toArray⟩, .string ⟨r.toArray⟩] w (Put32 K last r w) := by
  obtain ⟨i0, hi0, hz0, hz1, hz2⟩ := info_parts info9
  have HI := Lib.hid hi0
  have HZ0 := Lib.hid hz0
  have HZ1 := Lib.hid hz1
  have HZ2 := Lib.hid hz2
  clear hi0 hz0 hz1 hz2
  go_enter Tryd.func32, Tryd.ntmps32
  go_wp2
  go_loopg [2, 7, 8] (r.length + if last = [] then 0 else 1) (fun k s2 s7 s8 wr => ∃ (pre : List Bs) (cur : Bs) (b : Bool) (q : Bs), k = (q.length + if cur = [] then 0 else 1) ∧ s2 = .string ⟨q.toArray⟩ ∧ s8 = .bool b ∧ Hid (putP K last r = pre ++ goQ K cur b q) ∧ OwnS wr w.heap.size 9 s7 (pre ++ [cur]) ∧ Below w.heap.size w wr ∧ Hid (cur = [] ∨ 8 ≤ cur.length) ∧ Hid (cur ≠ [] → b = false) ∧ cur.length ≤ 1024 ∧ q.length ≤ 10000 ∧ pre.length + k ≤ 10001)
  case atStart => exact ⟨[], last, false, r, rfl, rfl, rfl, (goQ_start K last r).symm, OwnS.lit1 _ _ _ _ (Nat.le_refl _), below_alloc (Below.refl _ _) _, hl, fun _ => rfl, hl2, hr, by split <;> simp <;> omega⟩
  case round =>
    obtain ⟨pre, cur, b, q, hk, rfl, rfl, htot, hown, hbw, hc8, hcb, hcl, hql, hpl⟩ := hrel
    obtain ⟨g, c, rfl, hg, hcells, hfz, -⟩ := hown.row (by simp)
    have hcc : wr.cell? ⟨g, pre.length, none⟩ = some (.string ⟨cur.toArray⟩) := hcells _ _ (by simp)
    have HFZ := hfz pre.length
    have hgl := World.block_lt_of_cell? wr _ hcc
    have hz := hbw.size
    rw [show (pre ++ [cur]).length = pre.length + 1 from by simp] at hown ⊢
    have HK := Lib.hid hk
    have HOWN := Lib.hid hown
    have HBW := Lib.hid hbw
    clear hcells hfz hk hown hbw
    by_cases hfit : max 4 cur.length + 4 + q.length ≤ K
    · have HQ := Lib.hid (goQ_fit (b := b) hc8.out hcb.out hfit)
      by_cases h0 : cur = []
      · subst h0
        simp only [List.length_nil] at hfit
        go_wp2_with (go_at_call 40; refine (add40 _ _ _ _ (.inl rfl) (by simp) (by omega) _).mono ?_; rintro e w2 ⟨rfl, hb2⟩; have hc2 := (hb2.cell (p := ⟨g, pre.length, none⟩) hgl).trans hcc; have hf2 := (hb2.frozen (p := ⟨g, pre.length, none⟩) hgl).trans HFZ; have HB2 := Lib.hid hb2; clear hb2)
        go_ret
        have hs := (HOWN.out.below HB2.out).stored (by simp) pre.length (whole (List.drop 4 [] ++ form ⟨b, false, q⟩))
        rw [set_last] at hs
        exact ⟨_, rfl, by rw [htot.out, HQ.out]; exact hs, (HBW.out.trans (HB2.out.mono hz)).setCell hg _⟩
      · have h8 : 8 ≤ cur.length := hc8.out.resolve_left h0
        have h4I : (4 : Int) < (cur.length : Int) := by omega
        clear h0
        go_wp2_with (go_at_call 40; refine (add40 _ _ _ _ (.inr (by omega)) (by omega) (by omega) _).mono ?_; rintro e w2 ⟨rfl, hb2⟩; have hc2 := (hb2.cell (p := ⟨g, pre.length, none⟩) hgl).trans hcc; have hf2 := (hb2.frozen (p := ⟨g, pre.length, none⟩) hgl).trans HFZ; have HB2 := Lib.hid hb2; clear hb2)
        go_ret
        have hs := (HOWN.out.below HB2.out).stored (by simp) pre.length (whole (List.drop 4 cur ++ form ⟨b, false, q⟩))
        rw [set_last] at hs
        exact ⟨_, rfl, by rw [htot.out, HQ.out]; exact hs, (HBW.out.trans (HB2.out.mono hz)).setCell hg _⟩
    · have hroom : (K : Int) - max 4 (cur.length : Int) - 4 < q.length := by omega
      by_cases h0 : cur = []
      · subst h0
        simp only [List.length_nil] at hfit hroom
        obtain ⟨n, hn⟩ : ∃ n : Nat, n = K - 8 := ⟨_, rfl⟩
        have HQ := Lib.hid (goQ_part (n := n) (b := b) hK.1 hc8.out hcb.out hfit (by first | omega | (simp; omega)) (by omega))
        have HN := Lib.hid (show (K : Int) - 4 - 4 = n from by omega)
        have hnK : n ≤ 1024 := by omega
        have hnq : n < q.length := by omega
        have hn1 : 1 ≤ n := by omega
        have hl1 : ¬ ((q.length : Int) ≤ (K : Int) - 4 - 4) := by omega
        have hl2' : (1 : Int) ≤ (K : Int) - 4 - 4 := by omega
        clear hn hroom hfit
        go_upto_region 9 with fail
        rw [HN.out]
        clear hl1 hl2'
        have hnI : (n : Int) ≤ (q.length : Int) := by omega
        have hp1 : (pre.length : Int) < (pre.length : Int) + 1 := by omega
        have hcg : ∀ D os, (grow (redrawn wr D) os).cell? ⟨g, pre.length, none⟩ = some (.string ⟨#[]⟩) := fun D os => cell_regrown hcc D os
        refine wp_region_below_tail 14 13 (by kernel_rfl) (by kernel_rfl) (by kernel_rfl) ?_
        simp only [List.take_succ_cons, List.take_zero, List.drop_succ_cons, List.drop_zero]
        repeat (quiet_step ((go_at_call 40; refine Calls.regrown_of (add40 _ _ _ _ (.inl rfl) (by simp) (by simp; omega) _))))
        refine wpQuiet_nil ?_
        intro w2 hw2
        obtain ⟨p, rfl⟩ := hw2
        have hb2 := below_regrown wr p.d p.os
        clear hcg
        generalize grow (redrawn wr p.d) p.os = w2 at *
        have hc2 := (hb2.cell (p := ⟨g, pre.length, none⟩) hgl).trans hcc
        have hf2 := (hb2.frozen (p := ⟨g, pre.length, none⟩) hgl).trans HFZ
        have HB2 := Lib.hid hb2
        clear hb2
        have hz2 := HB2.out.size
        obtain ⟨X, hX⟩ : ∃ X : Bs, X = whole (form ⟨b, true, q.take n⟩) := ⟨_, rfl⟩
        have HX := Lib.hid (show X = whole (List.drop 4 [] ++ form ⟨b, true, q.take n⟩) from hX)
        have hwx : (w2.setCell ⟨g, pre.length, none⟩ (.string ⟨(whole (form ⟨b, true, q.take n⟩)).toArray⟩)) = w2.setCell ⟨g, pre.length, none⟩ (.string ⟨X.toArray⟩) := by rw [hX]
        have HWX := Lib.hid hwx
        clear hX hwx
        have HS := Lib.hid (show OwnS (w2.setCell ⟨g, pre.length, none⟩ (.string ⟨X.toArray⟩)) w.heap.size 9 (.slice (some ⟨g, 0, none⟩) (pre.length + 1) c) (pre ++ [X]) from by
          have hs := (HOWN.out.below HB2.out).stored (by simp) pre.length X
          rw [set_last] at hs
          exact hs)
        have HC5 := Lib.hid (show ((w2.setCell ⟨g, pre.length, none⟩ (.string ⟨X.toArray⟩)).alloc (.cells #[.string ⟨#[]⟩] 9)).cell? ⟨w2.heap.size, 0, none⟩ = some (.string ⟨([] : Bs).toArray⟩) from by have := (Blk.new (w2.setCell ⟨g, pre.length, none⟩ (.string ⟨X.toArray⟩)) 9 #[.string ⟨#[]⟩]).cell 0; simpa using this)
        have HZ5 := Lib.hid (show w.heap.size ≤ ((w2.setCell ⟨g, pre.length, none⟩ (.string ⟨X.toArray⟩)).alloc (.cells #[.string ⟨#[]⟩] 9)).heap.size from by simp; omega)
        have HL5 := Lib.hid (show (pre ++ [X]).length ≤ 1000000 from by simp; omega)
        go_upto_region 12 with fail
        rw [HWX.out]
        go_wp2_with (at_builtin; refine wpList_append_str rfl (.tmp 61) (.tmp 62) _ rfl w.heap.size 9 i0 _ Tryd.underlying22 HI.out HZ0.out HZ1.out HZ2.out rfl _ (pre ++ [X]) rfl (HS.out.alloc (.cells #[.string ⟨#[]⟩] 9)) [] ⟨w2.heap.size, 0, none⟩ 1 rfl HC5.out HL5.out HZ5.out ?_; intro v5 w5 hown5 hb5 _ _)
        go_roundg ((q.drop n).length + if ([] : Bs) = [] then 0 else 1)
        case rel => exact ⟨pre ++ [X], [], true, q.drop n, rfl, strEq (List.take_of_length_le (by simp)), rfl, Lib.hid (by rw [htot.out, HQ.out, HX.out]; simp), hown5, (((HBW.out.trans (HB2.out.mono hz)).setCell hg _).alloc (by simp; omega) _).trans hb5, .inl rfl, fun h => absurd rfl h, by simp, by simp; omega, by have := HK.out; simp at this ⊢; omega⟩
        case measure => have := HK.out; simp at this ⊢; omega
      · have h8 : 8 ≤ cur.length := hc8.out.resolve_left h0
        have h4I : (4 : Int) < (cur.length : Int) := by omega
        have hroom2 : (K : Int) - cur.length - 4 < q.length := by omega
        by_cases hone : cur.length + 4 < K
        · obtain ⟨n, hn⟩ : ∃ n : Nat, n = K - (cur.length + 4) := ⟨_, rfl⟩
          have HQ := Lib.hid (goQ_part (n := n) (b := b) hK.1 hc8.out hcb.out hfit (by first | omega | (simp; omega)) (by omega))
          have HN := Lib.hid (show (K : Int) - cur.length - 4 = n from by omega)
          have hnK : n ≤ 1024 := by omega
          have hnq : n < q.length := by omega
          have hn1 : 1 ≤ n := by omega
          have hl1 : ¬ ((q.length : Int) ≤ (K : Int) - cur.length - 4) := by omega
          have hl2' : (1 : Int) ≤ (K : Int) - cur.length - 4 := by omega
          clear hn hroom hfit
          go_upto_region 9 with fail
          rw [HN.out]
          clear hl1 hl2'
          have hnI : (n : Int) ≤ (q.length : Int) := by omega
          have hp1 : (pre.length : Int) < (pre.length : Int) + 1 := by omega
          have hcg : ∀ D os, (grow (redrawn wr D) os).cell? ⟨g, pre.length, none⟩ = some (.string ⟨cur.toArray⟩) := fun D os => cell_regrown hcc D os
          refine wp_region_below_tail 14 13 (by kernel_rfl) (by kernel_rfl) (by kernel_rfl) ?_
          simp only [List.take_succ_cons, List.take_zero, List.drop_succ_cons, List.drop_zero]
          repeat (quiet_step ((go_at_call 40; refine Calls.regrown_of (add40 _ _ _ _ (.inr (by omega)) (by omega) (by simp; omega) _))))
          refine wpQuiet_nil ?_
          intro w2 hw2
          obtain ⟨p, rfl⟩ := hw2
          have hb2 := below_regrown wr p.d p.os
          clear hcg
          generalize grow (redrawn wr p.d) p.os = w2 at *
          have hc2 := (hb2.cell (p := ⟨g, pre.length, none⟩) hgl).trans hcc
          have hf2 := (hb2.frozen (p := ⟨g, pre.length, none⟩) hgl).trans HFZ
          have HB2 := Lib.hid hb2
          clear hb2
          have hz2 := HB2.out.size
          obtain ⟨X, hX⟩ : ∃ X : Bs, X = whole (List.drop 4 cur ++ form ⟨b, true, q.take n⟩) := ⟨_, rfl⟩
          have HX := Lib.hid (show X = whole (List.drop 4 cur ++ form ⟨b, true, q.take n⟩) from hX)
          have hwx : (w2.setCell ⟨g, pre.length, none⟩ (.string ⟨(whole (List.drop 4 cur ++ form ⟨b, true, q.take n⟩)).toArray⟩)) = w2.setCell ⟨g, pre.length, none⟩ (.string ⟨X.toArray⟩) := by rw [hX]
          have HWX := Lib.hid hwx
          clear hX hwx
          have HS := Lib.hid (show OwnS (w2.setCell ⟨g, pre.length, none⟩ (.string ⟨X.toArray⟩)) w.heap.size 9 (.slice (some ⟨g, 0, none⟩) (pre.length + 1) c) (pre ++ [X]) from by
            have hs := (HOWN.out.below HB2.out).stored (by simp) pre.length X
            rw [set_last] at hs
            exact hs)
          have HC5 := Lib.hid (show ((w2.setCell ⟨g, pre.length, none⟩ (.string ⟨X.toArray⟩)).alloc (.cells #[.string ⟨#[]⟩] 9)).cell? ⟨w2.heap.size, 0, none⟩ = some (.string ⟨([] : Bs).toArray⟩) from by have := (Blk.new (w2.setCell ⟨g, pre.length, none⟩ (.string ⟨X.toArray⟩)) 9 #[.string ⟨#[]⟩]).cell 0; simpa using this)
          have HZ5 := Lib.hid (show w.heap.size ≤ ((w2.setCell ⟨g, pre.length, none⟩ (.string ⟨X.toArray⟩)).alloc (.cells #[.string ⟨#[]⟩] 9)).heap.size from by simp; omega)
          have HL5 := Lib.hid (show (pre ++ [X]).length ≤ 1000000 from by simp; omega)
          go_upto_region 12 with fail
          rw [HWX.out]
          go_wp2_with (at_builtin; refine wpList_append_str rfl (.tmp 61) (.tmp 62) _ rfl w.heap.size 9 i0 _ Tryd.underlying22 HI.out HZ0.out HZ1.out HZ2.out rfl _ (pre ++ [X]) rfl (HS.out.alloc (.cells #[.string ⟨#[]⟩] 9)) [] ⟨w2.heap.size, 0, none⟩ 1 rfl HC5.out HL5.out HZ5.out ?_; intro v5 w5 hown5 hb5 _ _)
          go_roundg ((q.drop n).length + if ([] : Bs) = [] then 0 else 1)
          case rel => exact ⟨pre ++ [X], [], true, q.drop n, rfl, strEq (List.take_of_length_le (by simp)), rfl, Lib.hid (by rw [htot.out, HQ.out, HX.out]; simp), hown5, (((HBW.out.trans (HB2.out.mono hz)).setCell hg _).alloc (by simp; omega) _).trans hb5, .inl rfl, fun h => absurd rfl h, by simp, by simp; omega, by have := HK.out; simp at this ⊢; omega⟩
          case measure => have := HK.out; simp at this ⊢; omega
        · have HQ := Lib.hid (goQ_next (b := b) hK.1 hc8.out hcb.out hfit (by omega))
          have hb0 := hcb.out h0
          have hl1 : ¬ ((q.length : Int) ≤ (K : Int) - cur.length - 4) := by omega
          have hl2' : ¬ (1 : Int) ≤ (K : Int) - cur.length - 4 := by omega
          have HC5 := Lib.hid (show (wr.alloc (.cells #[.string ⟨#[]⟩] 9)).cell? ⟨wr.heap.size, 0, none⟩ = some (.string ⟨([] : Bs).toArray⟩) from (Blk.new wr 9 #[.string ⟨#[]⟩]).cell 0)
          have HZ5 := Lib.hid (show w.heap.size ≤ (wr.alloc (.cells #[.string ⟨#[]⟩] 9)).heap.size from by simp; omega)
          have HL5 := Lib.hid (show (pre ++ [cur]).length ≤ 1000000 from by simp; omega)
          have HNE := Lib.hid h0
          clear h0 hfit hroom hb0
          go_wp2_with (at_builtin; refine wpList_append_str rfl (.tmp 61) (.tmp 62) _ rfl w.heap.size 9 i0 _ Tryd.underlying22 HI.out HZ0.out HZ1.out HZ2.out rfl _ (pre ++ [cur]) rfl (HOWN.out.alloc (.cells #[.string ⟨#[]⟩] 9)) [] ⟨wr.heap.size, 0, none⟩ 1 rfl HC5.out HL5.out HZ5.out ?_; intro v5 w5 hown5 hb5 _ _)
          go_roundg (q.length + if ([] : Bs) = [] then 0 else 1)
          case rel => exact ⟨pre ++ [cur], [], b, q, rfl, rfl, rfl, Lib.hid (by rw [htot.out, HQ.out]; simp), hown5, (HBW.out.alloc hz _).trans hb5, .inl rfl, fun h => absurd rfl h, by simp, by omega, by have := HK.out; rw [if_neg HNE.out] at this; simp; omega⟩
          case measure => have := HK.out; rw [if_neg HNE.out] at this; simp; omega
end Go.Proofs.YtabpgfcmfflceaaDoor
