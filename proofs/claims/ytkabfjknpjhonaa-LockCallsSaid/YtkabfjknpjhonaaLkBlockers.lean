/- Blockers: the units for which a unit waits directly, in increasing order. -/
import Derived.Test.YtkabfjknpjhonaaLkPlain
import Derived.Test.YtkabfjknpjhonaaLkPut
import Derived.Test.YtkabfjknpjhonaaLkWf
namespace Go.Proofs.Ytkabfjknpjhonaa
open Go.RowKit Go.Maps Go.Sort Go.Shelf P16 P46
attribute [local go_sem] ByteArray.mk_append_mk ByteArray.extract_mk mk_index

theorem intKeys_spec {P : Program} {k : TypeId} {R : Value → Option (DataW Unit × List MemPlace)} {w : World} {b n : Nat} {D0 : DataW Unit} (hown : w.ownsMap P k R b n D0) (hk : P.underlying k = some (.int .i64)) :
    (intKeys D0).Nodup ∧ ∀ x, x ∈ intKeys D0 ↔ has D0 (.int .i64 x) = true := by
  obtain ⟨es, hD, hpw, _⟩ := hown.entries (int_keyed hk)
  obtain ⟨es', hD', hko⟩ := hown.keysOf
  obtain rfl : es = es' := by rw [hD] at hD'; simpa using hD'
  subst hD
  have hkk : ∀ p ∈ es, ∃ x, p.1 = .int .i64 x := fun p hp => by obtain ⟨v, hv⟩ := hko p hp; obtain ⟨x, _, hx, _⟩ := Maps.keyOf_i64 hk hv; exact ⟨x, hx⟩
  constructor
  · show (es.map fun p => Go.intOf p.1).Nodup
    refine List.pairwise_map.2 (hpw.imp_of_mem fun {p q} hp' hq' hne e => hne ?_)
    obtain ⟨a, ha⟩ := hkk p hp'
    obtain ⟨b, hb⟩ := hkk q hq'
    rw [ha, hb] at e ⊢
    exact congrArg _ e
  · intro x
    rw [has_eq, List.any_eq_true]
    show x ∈ (es.map fun p => Go.intOf p.1) ↔ _
    rw [List.mem_map]
    constructor
    · rintro ⟨p, hp', rfl⟩
      obtain ⟨a, ha⟩ := hkk p hp'
      exact ⟨p, hp', by rw [ha]; simp [Lit.sameKey, Go.intOf]⟩
    · rintro ⟨p, hp', hs⟩
      obtain ⟨a, ha⟩ := hkk p hp'
      rw [ha] at hs
      exact ⟨p, hp', by rw [ha]; simpa [Lit.sameKey, Go.intOf] using hs⟩
theorem up_sort {l : List Int} (h : l.Nodup) : Up (l.mergeSort fun x y => decide (x ≤ y)) := by
  have h1 : (l.mergeSort fun x y => decide (x ≤ y)).Pairwise (fun a b => decide (a ≤ b) = true) := List.pairwise_mergeSort (fun a b c h1 h2 => by simp only [decide_eq_true_eq] at *; omega) (fun a b => by simp only [Bool.or_eq_true, decide_eq_true_eq]; omega) l
  have h2 : (l.mergeSort fun x y => decide (x ≤ y)).Nodup := (List.mergeSort_perm l _).nodup_iff.2 h
  refine (h1.and h2).imp ?_
  intro a b hab
  simp only [decide_eq_true_eq] at hab
  omega
theorem sortsI (m : Nat) : AnyZI.SortsIn Try.prog Try.sortedI_ren Fence.wide m :=
  ⟨fun blk off cap ss W hH hblk hsz => callsIn_wide.2 (AnyM.slices_Sort_int Try.sortI blk off cap ss W hH hblk hsz),
   fun p cap W => callsIn_wide.2 (AnyM.slices_Sort_int_none Try.sortI p cap W)⟩
theorem lkKeys (mb : Option Nat) (W : World) : Calls Try.prog 39 #[.map mb] W fun e w' => e = .returned (.func (.func 64) #[] #[.pointer (some ⟨W.heap.size, 0, none⟩)]) ∧ w' = W.alloc (.cells #[.map mb] 75) :=
  (callsIn_wide (n := 5)).1 (AnyZI.keys_in Try.keysI Fence.wide 5 trivial rfl mb W)
theorem OwnI.ofSorted {w w' : World} {o : Obj} {v : Value} {xs : List Int} (h : w'.ownsRow (w.alloc o).heap.size 3 1 v xs.length (xs.map encZ)) : OwnI w' w.heap.size v xs := World.ownsRow.mono h (by simp)
theorem lkSorted (b n : Nat) (l : List Int) (w : World) (hs : SetM w Try.prog 3 4 b n (inL l)) (hn : n ≤ 1000000) :
    Calls Try.prog 38 #[.func (.func 64) #[] #[.pointer (some ⟨w.heap.size, 0, none⟩)]] (w.alloc (.cells #[.map (some b)] 75)) fun e w' => ∃ v, e = .returned v ∧ OwnI w' w.heap.size v (setL l) ∧ Below w.heap.size w w' := by
  obtain ⟨D0, hown, h2, h3⟩ := hs.own
  obtain ⟨k1, k2⟩ := intKeys_spec hown Try.underlying3
  have hsz := hown.size_le
  have hbl := hown.lt
  have hseq : SeqGives Fence.wide 2 Try.prog 64 #[.pointer (some ⟨w.heap.size, 0, none⟩)] encZ (fun ss => ss.Perm (intKeys D0)) (Maps.size D0) (w.alloc (.cells #[.map (some b)] 75)) :=
    AnyZI.keys_gives (ρ := Try.keysI_ren) { Try.keysI with } Fence.wide _ trivial rfl (by omega) w.heap.size b n D0 _ (by simp) (by simp) (by
      obtain ⟨es, clock, hb, Ft, hs, hD⟩ := hown
      exact ⟨es, clock, (Below.heap_alloc _ _ b hbl).trans hb, Ft, hs, hD⟩)
  have cS := AnyZI.sorted_in Try.sortedI Fence.wide 5 trivial trivial trivial trivial rfl (by omega) (sortsI _) (enters_of Try.func63 (by kernel_rfl) rfl) 64 #[.pointer (some ⟨w.heap.size, 0, none⟩)] trivial (enters_of Try.func64 (by kernel_rfl) rfl) _ _ (by unfold maxLen; omega) (by omega) _ hseq
  refine ((callsIn_wide (n := 5)).1 cS).mono ?_
  rintro e w' ⟨v, ss, rfl, hS, hrow, hnil, hb⟩
  have hnd : ss.Nodup := hS.nodup_iff.2 k1
  have hmem : ∀ x, x ∈ ss.mergeSort (fun x y => decide (x ≤ y)) ↔ x ∈ setL l := fun x => by
    rw [(List.mergeSort_perm ss _).mem_iff, hS.mem_iff, k2, h2, (setL_spec l).2]
    unfold inL
    simp
  have he := up_ext (up_sort hnd) (setL_spec l).1 hmem
  rw [← he]
  refine ⟨v, rfl, OwnI.ofSorted (by rw [List.length_mergeSort]; exact hrow), below_then_ (below_alloc (Below.refl _ _) _) hb⟩
theorem lkSorted_nil (w : World) :
    Calls Try.prog 38 #[.func (.func 64) #[] #[.pointer (some ⟨w.heap.size, 0, none⟩)]] (w.alloc (.cells #[.map none] 75)) fun e w' => ∃ v, e = .returned v ∧ OwnI w' w.heap.size v (setL []) ∧ Below w.heap.size w w' := by
  have hseq : SeqGives Fence.wide 2 Try.prog 64 #[.pointer (some ⟨w.heap.size, 0, none⟩)] encZ (fun ss : List Int => ss = []) 0 (w.alloc (.cells #[.map none] 75)) :=
    AnyZI.keys_gives_nil (ρ := Try.keysI_ren) { Try.keysI with } Fence.wide _ trivial rfl w.heap.size _ (by simp) (by simp)
  have cS := AnyZI.sorted_in Try.sortedI Fence.wide 5 trivial trivial trivial trivial rfl (by omega) (sortsI _) (enters_of Try.func63 (by kernel_rfl) rfl) 64 #[.pointer (some ⟨w.heap.size, 0, none⟩)] trivial (enters_of Try.func64 (by kernel_rfl) rfl) _ 0 (Nat.zero_le _) (by omega) _ hseq
  refine ((callsIn_wide (n := 5)).1 cS).mono ?_
  rintro e w' ⟨v, ss, rfl, rfl, hrow, hnil, hb⟩
  have e : ([] : List Int).mergeSort (fun x y => decide (x ≤ y)) = [] := by simp
  rw [e] at hrow
  exact ⟨v, rfl, OwnI.ofSorted hrow, below_then_ (below_alloc (Below.refl _ _) _) hb⟩
set_option maxRecDepth 100000 in
set_option maxHeartbeats 1000000 in
theorem lkBlockersFn (u : Int) (B p : Nat) (h q : List Lock) (vh vq : Value) (w : World) (m : Mgr w B p h q vh vq) (hl : h.length + q.length ≤ 1000000) (hv : Valids ⟨h, q⟩) :
    Calls Try.prog 15 #[.pointer (some ⟨p, 0, none⟩), .int .i64 u] w fun e w' => ∃ v, e = .returned v ∧ OwnI w' w.heap.size v (setL (P46.blockers ⟨h, q⟩ u)) ∧ Below w.heap.size w w' := by
  have HM := Lib.hid m
  have HL := Lib.hid hl
  have HV := Lib.hid hv
  clear m hl hv
  cases hi : idx q u with
  | none =>
    have HI := Lib.hid hi
    have HE := Lib.hid (blockers_none (s := ⟨h, q⟩) hi)
    clear hi
    go_enter Try.func15, Try.ntmps15
    go_wp2_with fail
    refine (lkWaitsFor_none u B p h q vh vq _ HM.out (by have := HL.out; omega) HI.out).mono ?_
    rintro e w2 ⟨rfl, hb2⟩
    have HB2 := Lib.hid hb2
    clear hb2
    go_wp2_with fail
    refine (lkKeys none w2).mono ?_
    rintro e w3 ⟨rfl, rfl⟩
    go_wp2_with fail
    refine (lkSorted_nil w2).mono ?_
    rintro e w4 ⟨v, rfl, ho, hb4⟩
    have HO := Lib.hid ho
    have HB4 := Lib.hid hb4
    clear ho hb4
    go_wp2
    go_ret
    rw [HE.out]
    exact ⟨v, rfl, World.ownsRow.mono HO.out HB2.out.size, below_then HB2.out HB4.out⟩
  | some i =>
    obtain ⟨l, hl, -⟩ := idx_some hi
    have HI := Lib.hid hi
    have HLL := Lib.hid hl
    have HE := Lib.hid (blockers_some (s := ⟨h, q⟩) hi hl)
    clear hi hl
    go_enter Try.func15, Try.ntmps15
    go_wp2_with fail
    refine (lkWaitsFor_some u B p h q vh vq _ HM.out (by have := HL.out; omega) (by have := HL.out; omega) HV.out i l HI.out HLL.out).mono ?_
    rintro e w2 ⟨b, k, rfl, hs, hk, hlo, hb2⟩
    have HS := Lib.hid hs
    have HB2 := Lib.hid hb2
    have hk' : k ≤ 1000000 := by have := HL.out; omega
    clear hs hb2 hlo hk
    go_wp2_with fail
    refine (lkKeys (some b) w2).mono ?_
    rintro e w3 ⟨rfl, rfl⟩
    go_wp2_with fail
    refine (lkSorted b k _ w2 HS.out hk').mono ?_
    rintro e w4 ⟨v, rfl, ho, hb4⟩
    have HO := Lib.hid ho
    have HB4 := Lib.hid hb4
    clear ho hb4
    go_wp2
    go_ret
    rw [HE.out]
    exact ⟨v, rfl, World.ownsRow.mono HO.out HB2.out.size, below_then HB2.out HB4.out⟩
end Go.Proofs.Ytkabfjknpjhonaa
