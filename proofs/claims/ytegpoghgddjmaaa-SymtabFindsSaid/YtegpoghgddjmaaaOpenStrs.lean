/- A slice of texts that came in: opened as the row's proof has it. -/
import Derived.Test.YtegpoghgddjmaaaSymC
import Derived.Deep.Strs
import Derived.ProofKit
namespace Go.Proofs.Ytegpoghgddjmaaa
open Go.RowKit Go.ChangeShapes Go.WideShapes
set_option maxRecDepth 100000

theorem open_texts {H : Type} {enc : TypeId × Value → H} {W : World} {spare : Nat → Bool} {held : Bool} {fuel : Nat} {a0 : Option Addr} {len0 cap0 : Nat} {x : DataW H × List MemPlace}
    (h : DataW.trod enc Try.prog W 0 spare held fuel 78 [.slice a0 len0 cap0] = some x) :
    ∃ L : List (List UInt8), L.length = len0 ∧ Strs W W.heap.size a0 L ∧ len0 ≤ cap0 ∧ cap0 ≤ 9223372036854775807 ∧ (a0 = none → cap0 = 0) := by
  rcases Deep.open_strs Try.underlying78 Try.underlying9 (by kernel_rfl) h with ⟨h0, _⟩ | ⟨a, len, cap, m, Sx, h0, _, hl, hm, hmm, _, hx⟩
  · injection h0 with h0 _
    injection h0 with e1 e2 e3
    subst e1 e2 e3
    exact ⟨[], rfl, fun h => absurd h (by simp), Nat.le_refl _, by decide, fun _ => rfl⟩
  · injection h0 with h0 _
    injection h0 with e1 e2 e3
    subst e1 e2 e3
    have hlm : len0 ≤ m := by rw [hmm]; split <;> omega
    unfold maxLen at hm
    refine ⟨(List.range len0).map fun i => (Sx i).data.toList, by simp, fun hp => ?_, hl, hm, fun h => by cases h⟩
    have hp' : 0 < len0 := by simpa using hp
    obtain ⟨b, off, sp⟩ := a
    have h0 := (hx 0 (by omega)).1
    have hsp : sp = none := by
      cases sp with
      | none => rfl
      | some n => 
        unfold World.cell? at h0
        simp [Addr.add] at h0
        split at h0 <;> simp at h0
    subst hsp
    refine ⟨b, off, rfl, block_lt_of_cell h0, fun j y hy => ?_⟩
    have hj : j < len0 := by
      rcases Nat.lt_or_ge j len0 with h | h
      · exact h
      · rw [List.getElem?_eq_none (by simpa using h)] at hy; cases hy
    have ey : (Sx j).data.toList = y := by simpa [hj] using hy
    obtain ⟨k0, k1⟩ := hx j (by omega)
    have he : (⟨b, off, none⟩ : Addr).add j = ⟨b, off + j, none⟩ := by unfold Addr.add; split <;> simp_all
    rw [he] at k0
    subst ey
    refine ⟨by rw [k0], ?_⟩
    unfold maxLen at k1
    rw [Array.length_toList]
    exact k1
end Go.Proofs.Ytegpoghgddjmaaa
