/- Plain law: a frame of which a byte of the sum or the payload is turned is refused, whatever stands behind it. No program is run here. -/
import Derived.Test.YtlepallialmceaaPlainFrame
namespace Go.Proofs.Ytlepallialmceaa
open Go.RowKit

theorem four_num4 : ∀ {l : List UInt8}, l.length = 4 → four (num4 l) = l
  | [a, b, c, d], _ => by
    have ha := a.toNat_lt; have hb := b.toNat_lt; have hc := c.toNat_lt; have hd := d.toNat_lt
    have e : ∀ (x : UInt8) (k : Nat), k % 256 = x.toNat → UInt8.ofNat k = x := fun x k h => UInt8.toNat_inj.1 (by rw [UInt8.toNat_ofNat']; exact h)
    show [_, _, _, _] = _
    rw [e a _ (by show (a.toNat + 256 * b.toNat + 65536 * c.toNat + 16777216 * d.toNat) % 256 = _; omega),
      e b _ (by show ((a.toNat + 256 * b.toNat + 65536 * c.toNat + 16777216 * d.toNat) / 256) % 256 = _; omega),
      e c _ (by show ((a.toNat + 256 * b.toNat + 65536 * c.toNat + 16777216 * d.toNat) / 65536) % 256 = _; omega),
      e d _ (by show ((a.toNat + 256 * b.toNat + 65536 * c.toNat + 16777216 * d.toNat) / 16777216) % 256 = _; omega)]
theorem nums_cons (x : UInt8) (l : List UInt8) : nums (x :: l) = x.toNat :: nums l := rfl
theorem fsum_set (h p : List UInt8) (k : Nat) (x y : UInt8) (hk : p[k]? = some x) (hne : x ≠ y) : Crc.more 0 (nums (h ++ p.set k y)) ≠ Crc.more 0 (nums (h ++ p)) := by
  have hlt := (List.getElem?_eq_some_iff.1 hk)
  obtain ⟨h1, h2⟩ := hlt
  have e1 : p = p.take k ++ x :: p.drop (k + 1) := by rw [← h2, ← List.drop_eq_getElem_cons h1, List.take_append_drop]
  have e2 : p.set k y = p.take k ++ y :: p.drop (k + 1) := by rw [List.set_eq_take_append_cons_drop, if_pos h1]
  have e3 : nums (h ++ p.set k y) = nums (h ++ p.take k) ++ y.toNat :: nums (p.drop (k + 1)) := by rw [e2, ← List.append_assoc, nums_append]; rfl
  have e4 : nums (h ++ p) = nums (h ++ p.take k) ++ x.toNat :: nums (p.drop (k + 1)) := by
    conv => lhs; rw [e1, ← List.append_assoc, nums_append]
    rfl
  rw [e3, e4]
  exact Crc.more_tells 0 _ _ y.toNat_lt x.toNat_lt (fun e => hne (UInt8.toNat_inj.1 e.symm))
theorem first_turned (p r : List UInt8) (k : Nat) (x y : UInt8) (hp : p.length ≤ 65536) (h5 : 5 ≤ k) (hk : (wrap p)[k]? = some x) (hne : x ≠ y) : first ((wrap p).set k y ++ r) = ([], 0, 5) := by
  rw [wrap_eq] at hk ⊢
  have hH : ((165 : UInt8) :: four p.length).length = 5 := rfl
  have eW : (165 : UInt8) :: (four p.length ++ (four (fsum p) ++ p)) = ((165 : UInt8) :: four p.length) ++ (four (fsum p) ++ p) := rfl
  rw [eW] at hk ⊢
  rw [List.getElem?_append_right (by omega), hH] at hk
  rw [List.set_append_right _ _ (by omega), hH]
  by_cases h9 : k - 5 < 4
  · rw [List.getElem?_append_left (by rw [four_length]; exact h9)] at hk
    rw [List.set_append_left _ _ (by rw [four_length]; exact h9)]
    have hX := four_num4 (l := (four (fsum p)).set (k - 5) y) (by rw [List.length_set]; rfl)
    have hs := num4_lt ((four (fsum p)).set (k - 5) y)
    have hd : fsum p ≠ num4 ((four (fsum p)).set (k - 5) y) := by
      intro e
      rw [← e] at hX
      rw [hX, List.getElem?_set_self (by rw [four_length]; exact h9)] at hk
      injection hk with hk
      exact hne hk.symm
    rw [← hX]
    generalize num4 ((four (fsum p)).set (k - 5) y) = s at hs hd
    have e : (((165 : UInt8) :: four p.length) ++ (four s ++ p)) ++ r = (165 : UInt8) :: (four p.length ++ (four s ++ (p ++ r))) := by simp
    rw [e, first_parts _ _ _ hp hs (by simp), List.take_left]
    exact if_pos hd
  · have h4 : (four (fsum p)).length = 4 := rfl
    rw [List.getElem?_append_right (by omega), h4] at hk
    rw [List.set_append_right _ _ (by omega), h4]
    have e : (((165 : UInt8) :: four p.length) ++ (four (fsum p) ++ p.set (k - 5 - 4) y)) ++ r = (165 : UInt8) :: (four p.length ++ (four (fsum p) ++ (p.set (k - 5 - 4) y ++ r))) := by simp
    have ht : (p.set (k - 5 - 4) y ++ r).take p.length = p.set (k - 5 - 4) y := by
      have := List.take_left (l₁ := p.set (k - 5 - 4) y) (l₂ := r)
      rwa [List.length_set] at this
    rw [e, first_parts _ _ _ hp (fsum_lt p) (by simp), ht, if_pos]
    exact fsum_set _ p _ x y hk hne
end Go.Proofs.Ytlepallialmceaa
