/- A slice of slices of bytes as an argument: opened as the row's proof has it. -/
import Derived.Test.YtlepallialmceaaSame
import Derived.Deep.Slices
import Derived.OpenShut
import Derived.ProofKit
namespace Go.Proofs.Ytlepallialmceaa
open Go.RowKit Go.ChangeShapes Go.WideShapes
set_option maxRecDepth 100000

theorem cellsBytes : Try.prog.cellsOf 22 = 1 := by kernel_rfl
theorem open_bytes {H : Type} {enc : TypeId × Value → H} {W : World} {held : Bool} {fuel : Nat} {cs : List Value} {x : DataW H × List MemPlace}
    (h : DataW.trod enc Try.prog W 0 (fun _ => true) held fuel 22 cs = some x) :
    ∃ A n c l, cs = [.slice A n c] ∧ l.length = n ∧ Bytes W W.heap.size A l ∧ (A = none → c = 0) ∧ n ≤ c ∧ c ≤ 9223372036854775807 := by
  rcases open_ints Try.underlying22 Try.underlying5 (by kernel_rfl) h with ⟨hcs, _⟩ | ⟨x, l, c, zs, hcs, _, hl, hm, hz, _, hcell, hwz⟩
  · exact ⟨none, 0, 0, [], hcs, rfl, Bytes.nil_ _, fun _ => rfl, Nat.le_refl _, by decide⟩
  · have x0 : IsRow .u8 W (some x) l c zs := .inr ⟨_, rfl, hl, hm, by simpa using hz, hcell, hwz⟩
    obtain ⟨l1, hn, w1, _⟩ := IsRow.bytes x0
    exact ⟨some x, l, c, l1, hcs, hn, w1, (fun h => by cases h), hl, by simpa [maxLen] using hm⟩
theorem open_rows {H : Type} {enc : TypeId × Value → H} {W : World} {held : Bool} {fuel : Nat} {a0 : Option Addr} {len0 cap0 : Nat} {x : DataW H × List MemPlace}
    (h : DataW.trod enc Try.prog W 0 (fun _ => true) held fuel 43 [.slice a0 len0 cap0] = some x) :
    ∃ L : List (List UInt8), L.length = len0 ∧ Rows W W.heap.size a0 L ∧ len0 ≤ cap0 ∧ cap0 ≤ 9223372036854775807 ∧ (a0 = none → cap0 = 0) := by
  rcases Deep.open_slice Try.underlying43 h with ⟨h0, _⟩ | ⟨a, len, cap, m, n, D, Pl, h0, _, hl, hm, hmm, _, hx⟩
  · injection h0 with h0 _
    injection h0 with e1 e2 e3
    subst e1 e2 e3
    exact ⟨[], rfl, fun h => absurd h (by simp), Nat.le_refl _, by decide, fun _ => rfl⟩
  · injection h0 with h0 _
    injection h0 with e1 e2 e3
    subst e1 e2 e3
    have hlm : len0 ≤ m := by rw [hmm]; split <;> omega
    have each : ∀ i, i < len0 → ∃ q : List UInt8, ∃ A' c', W.cell? (a.add i) = some (.slice A' q.length c') ∧ Bytes W W.heap.size A' q := by
      intro i hi
      obtain ⟨cs', h1, h2⟩ := hx i (by omega)
      rw [cellsBytes, Nat.mul_one] at h1
      obtain ⟨_, hlen, hcell⟩ := World.cells?_some h1
      obtain ⟨A', n', c', l, rfl, rfl, hby, _⟩ := open_bytes h2
      have e0 := hcell 0 (by omega)
      rw [Deep.add_add] at e0
      exact ⟨l, A', c', by simpa using e0, hby⟩
    obtain ⟨q, hq⟩ := Deep.choose_lt each
    refine ⟨(List.range len0).map q, by simp, fun hp => ?_, hl, by unfold maxLen at hm; omega, fun h => by cases h⟩
    have hp' : 0 < len0 := by simpa using hp
    obtain ⟨b, off, sp⟩ := a
    obtain ⟨_, _, h0, _⟩ := hq 0 hp'
    have hsp : sp = none := by
      cases sp with
      | none => rfl
      | some n => 
        unfold World.cell? at h0
        simp [Addr.add] at h0
        split at h0 <;> simp at h0
    subst hsp
    refine ⟨b, off, rfl, block_lt_of_cell h0, fun j y hy => ?_⟩
    have hj : j < len0 := by
      rcases Nat.lt_or_ge j len0 with h | h
      · exact h
      · rw [List.getElem?_eq_none (by simpa using h)] at hy; cases hy
    have ey : q j = y := by simpa [hj] using hy
    obtain ⟨A', c', k0, k1⟩ := hq j hj
    rw [ey] at k0 k1
    have he : ∀ i, (⟨b, off, none⟩ : Addr).add i = ⟨b, off + i, none⟩ := fun i => by unfold Addr.add; split <;> simp_all
    rw [he] at k0
    exact ⟨A', c', k0, k1⟩
end Go.Proofs.Ytlepallialmceaa
