/- The reference's conflicts. -/
import Derived.Test.YtjklhiifjnmedaaGreatDoorLkOf
import Derived.Test.YtjklhiifjnmedaaGreatDoorQuiet
import Derived.Test.YtjklhiifjnmedaaGreatDoorFree
import Derived.Deep.QuietTactic
namespace Go.Proofs.YtjklhiifjnmedaaGreatDoor
open Go.RowKit P16 P46 Go.Sort
attribute [local go_sem] ByteArray.mk_append_mk ByteArray.extract_mk mk_index

theorem regrown_row {wr : World} {ad : Addr} {cs : Array Value} (h : ∀ (j : Nat) (u : Value), cs[j]? = some u → wr.cell? (ad.add j) = some u) : ∀ w', (∃ p : Regrown, w' = grow (redrawn wr p.d) p.os) → ∀ (j : Nat) (u : Value), cs[j]? = some u → w'.cell? (ad.add j) = some u := by
  rintro w' ⟨p, rfl⟩ j u hj
  exact cell_regrown (h j u hj) p.d p.os
end Go.Proofs.YtjklhiifjnmedaaGreatDoor
