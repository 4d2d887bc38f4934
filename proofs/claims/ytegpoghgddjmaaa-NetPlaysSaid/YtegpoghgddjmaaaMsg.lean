/- A message as an argument: opened as the row's proof has it. -/
import Derived.Test.YtegpoghgddjmaaaWords
import Derived.OpenShut
namespace Go.Proofs.Ytegpoghgddjmaaa
open Go.RowKit Go.ChangeShapes Go.WideShapes
set_option maxRecDepth 100000

theorem cellsMsg : Try.prog.cellsOf 54 = 3 := by kernel_rfl
theorem cellsBool : Try.prog.cellsOf 4 = 1 := by kernel_rfl
theorem cellsBytes : Try.prog.cellsOf 31 = 1 := by kernel_rfl
theorem open_bytes {H : Type} {enc : TypeId × Value → H} {W : World} {held : Bool} {fuel : Nat} {cs : List Value} {x : DataW H × List MemPlace}
    (h : DataW.trod enc Try.prog W 0 (fun _ => true) held fuel 31 cs = some x) :
    ∃ A n c l, cs = [.slice A n c] ∧ l.length = n ∧ Bytes W W.heap.size A l ∧ (A = none → c = 0) ∧ n ≤ c ∧ c ≤ 9223372036854775807 := by
  rcases open_ints Try.underlying31 Try.underlying5 (by kernel_rfl) h with ⟨hcs, _⟩ | ⟨x, l, c, zs, hcs, _, hl, hm, hz, _, hcell, hwz⟩
  · exact ⟨none, 0, 0, [], hcs, rfl, Bytes.nil_ _, fun _ => rfl, Nat.le_refl _, by decide⟩
  · have x0 : IsRow .u8 W (some x) l c zs := .inr ⟨_, rfl, hl, hm, by simpa using hz, hcell, hwz⟩
    obtain ⟨l1, hn, w1, _⟩ := IsRow.bytes x0
    exact ⟨some x, l, c, l1, hcs, hn, w1, (fun h => by cases h), hl, by simpa [maxLen] using hm⟩
theorem open_msg {H : Type} {enc : TypeId × Value → H} {W : World} {held : Bool} {fuel : Nat} {cs : List Value} {x : DataW H × List MemPlace}
    (h : DataW.trod enc Try.prog W 0 (fun _ => true) held fuel 54 cs = some x) (h3 : cs.length = 3) :
    ∃ a hh A n c l, cs = [.bool a, .int .i64 hh, .slice A n c] ∧ (-9223372036854775808 ≤ hh ∧ hh ≤ 9223372036854775807) ∧ l.length = n ∧ Bytes W W.heap.size A l ∧ (A = none → c = 0) ∧ n ≤ c ∧ c ≤ 9223372036854775807 := by
  obtain ⟨xs, k, hk, hxy, _, hxl, hf⟩ := DataW.trod_struct Try.underlying54 h
  match xs, hxl, cs, h3 with
  | [y0, y1, y2], _, [v0, v1, v2], _ =>
    have g0 := hf 0 _ rfl
    have g1 := hf 1 _ rfl
    have g2 := hf 2 _ rfl
    simp [cellsInt, cellsBool, cellsBytes] at g0 g1 g2
    obtain ⟨z0, c0, _⟩ := DataW.trod_bool Try.underlying4 g0
    obtain ⟨z1, c1, _, w1⟩ := DataW.trod_int Try.underlying3 g1
    obtain ⟨A, n, c, l, c2, r⟩ := open_bytes g2
    injection c0 with c0 _
    injection c1 with c1 _
    injection c2 with c2 _
    subst c0 c1 c2
    exact ⟨z0, z1, A, n, c, l, rfl, int_of_i64 w1, r⟩
end Go.Proofs.Ytegpoghgddjmaaa
