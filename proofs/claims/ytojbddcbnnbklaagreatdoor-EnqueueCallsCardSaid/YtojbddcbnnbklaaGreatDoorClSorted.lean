/- The names of a map, sorted: slices.Sorted(maps.Keys(m)). -/
import Derived.Test.YtojbddcbnnbklaaGreatDoorClPlain2
import Derived.Test.YtojbddcbnnbklaaGreatDoorClLookP
namespace Go.Proofs.YtojbddcbnnbklaaGreatDoor
open Go.RowKit Go.Maps Go.Sort Go.Shelf P43

theorem strKeys_spec {P : Program} {k : TypeId} {R : Value → Option (DataW Unit × List MemPlace)} {w : World} {b n : Nat} {D0 : DataW Unit} (hown : w.ownsMap P k R b n D0) (hk : P.underlying k = some .string) :
    (strKeys D0).Nodup ∧ ∀ x, x ∈ strKeys D0 ↔ has D0 (.string x) = true := by
  obtain ⟨es, hD, hpw, _⟩ := hown.entries (string_keyed hk)
  obtain ⟨es', hD', hko⟩ := hown.keysOf
  obtain rfl : es = es' := by rw [hD] at hD'; simpa using hD'
  subst hD
  have hkk : ∀ p ∈ es, ∃ x, p.1 = .string x := fun p hp => by
    obtain ⟨v, hv⟩ := hko p hp
    rw [keyOf_string hk] at hv
    unfold mapKey at hv
    simp only [hk] at hv
    cases v <;> simp at hv
    exact ⟨_, hv.2.symm⟩
  constructor
  · show (es.map fun p => strOf p.1).Nodup
    refine List.pairwise_map.2 (hpw.imp_of_mem fun {p q} hp' hq' hne e => hne ?_)
    obtain ⟨a, ha⟩ := hkk p hp'
    obtain ⟨b, hb⟩ := hkk q hq'
    rw [ha, hb] at e ⊢
    exact congrArg _ e
  · intro x
    rw [has_eq, List.any_eq_true]
    show x ∈ (es.map fun p => strOf p.1) ↔ _
    rw [List.mem_map]
    constructor
    · rintro ⟨p, hp', rfl⟩
      obtain ⟨a, ha⟩ := hkk p hp'
      exact ⟨p, hp', by rw [ha]; simp [Lit.sameKey, strOf]⟩
    · rintro ⟨p, hp', hs⟩
      obtain ⟨a, ha⟩ := hkk p hp'
      rw [ha] at hs
      exact ⟨p, hp', by rw [ha]; simpa [Lit.sameKey, strOf] using hs⟩
theorem sortsS (m : Nat) : AnyZ.SortsIn Tryz.prog Tryz.sortedS_ren Fence.wide m :=
  ⟨fun blk off cap ss W hH hblk hsz => callsIn_wide.2 (AnyM.slices_Sort_string Tryz.sortS blk off cap ss W hH hblk hsz),
   fun p cap W => callsIn_wide.2 (AnyM.slices_Sort_string_none Tryz.sortS p cap W)⟩
theorem clKeys (mb : Option Nat) (W : World) : Calls Tryz.prog 36 #[.map mb] W fun e w' => e = .returned (.func (.func 51) #[] #[.pointer (some ⟨W.heap.size, 0, none⟩)]) ∧ w' = W.alloc (.cells #[.map mb] 74) :=
  (callsIn_wide (n := 5)).1 (AnyZ.keys_in Tryz.keysS Fence.wide 5 trivial rfl mb W)
theorem clSorted (b n : Nat) (M : Nm → Option Bool) (w : World) (h : NMap w Tryz.prog 9 4 b n M) (hn : n ≤ 1000000) :
    Calls Tryz.prog 35 #[.func (.func 51) #[] #[.pointer (some ⟨w.heap.size, 0, none⟩)]] (w.alloc (.cells #[.map (some b)] 74)) fun e w' => ∃ (v : Value) (ss : List Nm), e = .returned v ∧ ss.Nodup ∧ (∀ s, s ∈ ss ↔ (M s).isSome = true) ∧ w'.ownsRow w.heap.size 9 1 v ss.length ((ss.mergeSort fun x y => decide (x ≤ y)).map encStr) ∧ Below w.heap.size w w' := by
  obtain ⟨D0, hown, h2, h3⟩ := h.own
  obtain ⟨k1, k2⟩ := strKeys_spec hown Tryz.underlying9
  have hsz := hown.size_le
  have hbl := hown.lt
  have hseq : SeqGives Fence.wide 2 Tryz.prog 51 #[.pointer (some ⟨w.heap.size, 0, none⟩)] encStr (fun ss => ss.Perm (strKeys D0)) (Maps.size D0) (w.alloc (.cells #[.map (some b)] 74)) :=
    AnyZ.keys_gives (ρ := Tryz.keysS_ren) { Tryz.keysS with } Fence.wide _ trivial rfl (by omega) w.heap.size b n D0 _ (by simp) (by simp) (by
      obtain ⟨es, clock, hb, Ft, hs, hD⟩ := hown
      exact ⟨es, clock, (Below.heap_alloc _ _ b hbl).trans hb, Ft, hs, hD⟩)
  have cS := AnyZ.sorted_in Tryz.sortedS Fence.wide 5 trivial trivial trivial trivial rfl (by omega) (sortsS _) (enters_of Tryz.func50 (by kernel_rfl) rfl) 51 #[.pointer (some ⟨w.heap.size, 0, none⟩)] trivial (enters_of Tryz.func51 (by kernel_rfl) rfl) _ _ (by unfold maxLen; omega) (by omega) _ hseq
  refine ((callsIn_wide (n := 5)).1 cS).mono ?_
  rintro e w' ⟨v, ss, rfl, hS, hrow, hnil, hb⟩
  refine ⟨v, ss, rfl, hS.nodup_iff.2 k1, fun s => ?_, ?_, ?_⟩
  · rw [hS.mem_iff, k2, h2]
  · have hle : w.heap.size ≤ (w.alloc (.cells #[.map (some b)] 74)).heap.size := by simp
    exact World.ownsRow.mono hrow hle
  · exact below_then_ (below_alloc (Below.refl _ _) _) hb
end Go.Proofs.YtojbddcbnnbklaaGreatDoor
