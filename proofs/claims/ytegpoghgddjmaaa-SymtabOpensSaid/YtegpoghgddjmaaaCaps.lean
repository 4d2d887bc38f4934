/- The capacity of a slice that came in. -/
import Derived.Test.YtegpoghgddjmaaaMemB
namespace Go.Proofs.Ytegpoghgddjmaaa
open Go.RowKit
theorem IsRow.caps3 {k : IntKind} {w : World} {a : Option Addr} {len cap : Nat} {zs : List Int} (h : IsRow k w a len cap zs) : (a = none → cap = 0) ∧ len ≤ cap ∧ cap ≤ 9223372036854775807 := by
  rcases h with ⟨_, rfl, rfl, _⟩ | ⟨_, e, h1, h2, _⟩
  · exact ⟨fun _ => rfl, Nat.le_refl _, by decide⟩
  · exact ⟨(fun h => by rw [h] at e; cases e), h1, by unfold maxLen at h2; omega⟩
end Go.Proofs.Ytegpoghgddjmaaa
