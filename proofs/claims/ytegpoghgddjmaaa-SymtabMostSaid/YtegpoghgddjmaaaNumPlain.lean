/- The plain law of a number's form: what is read is what was put down, and the other way about. -/
import Derived.Test.YtegpoghgddjmaaaWriter
namespace Go.Proofs.Ytegpoghgddjmaaa
open Go.RowKit
set_option maxRecDepth 100000

/-- The leading ones of a byte. -/
def ones (x : Nat) : Nat :=
  if x < 128 then 0 else if x < 192 then 1 else if x < 224 then 2 else if x < 240 then 3 else if x < 248 then 4 else if x < 252 then 5 else if x < 254 then 6 else if x < 255 then 7 else 8
theorem ones_len {x r : Nat} (hx : x < 256) (h : isLen (255 - x) r) (h8 : r ≤ 8) : ones x = 8 - r := by
  have h0 := isLen_lt h 0
  have h1 := isLen_lt h 1
  have h2 := isLen_lt h 2
  have h3 := isLen_lt h 3
  have h4 := isLen_lt h 4
  have h5 := isLen_lt h 5
  have h6 := isLen_lt h 6
  have h7 := isLen_lt h 7
  simp only [Nat.reducePow] at h0 h1 h2 h3 h4 h5 h6 h7
  unfold ones
  repeat' split
  all_goals omega
theorem ones_le (x : Nat) : ones x ≤ 8 := by
  unfold ones
  repeat' split
  all_goals omega

/-- The number from the top byte on. -/
def beNum (v : Nat) : List UInt8 → Nat
  | [] => v
  | x :: l => beNum (256 * v + x.toNat) l
/-- The number of a first byte. -/
def begin_ (x : UInt8) : Nat := if ones x.toNat < 8 then x.toNat % 2 ^ (7 - ones x.toNat) else 0
/-- The number that bytes begin with: it, how many bytes, the error. -/
def getNum (b : List UInt8) : Nat × Nat × Int :=
  match b with
  | [] => (0, 0, 2)
  | x :: r =>
    if r.length < ones x.toNat then (0, 0, 2)
    else if oth (beNum (begin_ x) (r.take (ones x.toNat))) ≠ ones x.toNat then (0, 0, 3)
    else (beNum (begin_ x) (r.take (ones x.toNat)), 1 + ones x.toNat, 0)

theorem beNum_append (v : Nat) (l m : List UInt8) : beNum v (l ++ m) = beNum (beNum v l) m := by
  induction l generalizing v with
  | nil => rfl
  | cons x l ih => exact ih _
theorem beNum_lt (v : Nat) (l : List UInt8) : beNum v l < (v + 1) * 256 ^ l.length := by
  induction l generalizing v with
  | nil => simp [beNum]
  | cons x l ih =>
    have hx := x.toNat_lt
    refine Nat.lt_of_lt_of_le (ih _) ?_
    rw [List.length_cons, Nat.pow_succ, Nat.mul_comm (256 ^ l.length) 256, ← Nat.mul_assoc]
    exact Nat.mul_le_mul_right _ (by omega)
theorem beNum_div (v : Nat) (l : List UInt8) : beNum v l / 256 ^ l.length = v := by
  induction l generalizing v with
  | nil => simp [beNum]
  | cons x l ih =>
    have hx := x.toNat_lt
    show beNum (256 * v + x.toNat) l / 256 ^ (l.length + 1) = v
    rw [Nat.pow_succ, ← Nat.div_div_eq_div_mul, ih]
    omega
theorem low8_byte (v : Nat) (x : UInt8) : low8 (256 * v + x.toNat) = x := by
  apply UInt8.toNat.inj
  have hx := x.toNat_lt
  show (UInt8.ofNat _).toNat = _
  rw [UInt8.toNat_ofNat']
  omega
theorem tail8_beNum (v : Nat) (l : List UInt8) : tail8 (beNum v l) l.length = l := by
  induction l generalizing v with
  | nil => rfl
  | cons x l ih =>
    show low8 (beNum (256 * v + x.toNat) l / 256 ^ l.length) :: tail8 (beNum (256 * v + x.toNat) l) l.length = _
    rw [beNum_div, low8_byte, ih]
theorem low8_toNat (v : Nat) : (low8 v).toNat = v % 256 := by
  show (UInt8.ofNat _).toNat = _
  rw [UInt8.toNat_ofNat']
theorem beNum_tail8 (v k : Nat) : beNum (v / 256 ^ k) (tail8 v k) = v := by
  induction k with
  | zero => simp [tail8, beNum]
  | succ k ih =>
    show beNum (256 * (v / 256 ^ (k + 1)) + (low8 (v / 256 ^ k)).toNat) (tail8 v k) = v
    rw [low8_toNat, Nat.pow_succ, ← Nat.div_div_eq_div_mul]
    rw [show 256 * (v / 256 ^ k / 256) + v / 256 ^ k % 256 = v / 256 ^ k by omega]
    exact ih
theorem tail8_length (v k : Nat) : (tail8 v k).length = k := by
  induction k with
  | zero => rfl
  | succ k ih => show (tail8 v k).length + 1 = k + 1; rw [ih]
theorem first_says : ∀ x : Fin 256, ones x.val < 8 → 256 - 2 ^ (8 - ones x.val) + x.val % 2 ^ (7 - ones x.val) = x.val := by decide +kernel
theorem first_full : ∀ x : Fin 256, ones x.val = 8 → x.val = 255 := by decide +kernel
theorem ones_lead : ∀ k : Fin 8, ∀ y : Fin 128, y.val < 2 ^ (7 - k.val) → ones (256 - 2 ^ (8 - k.val) + y.val) = k.val ∧ (256 - 2 ^ (8 - k.val) + y.val) % 2 ^ (7 - k.val) = y.val ∧ 256 - 2 ^ (8 - k.val) + y.val < 256 := by decide +kernel

/-- What was read has just the form that it was read of. -/
theorem getNum_num {b : List UInt8} {v n : Nat} (h : getNum b = (v, n, 0)) : n ≤ b.length ∧ num v = b.take n ∧ v < 18446744073709551616 := by
  cases b with
  | nil => simp [getNum] at h
  | cons x r =>
    have hx := x.toNat_lt
    simp only [getNum] at h
    by_cases h1 : r.length < ones x.toNat
    · rw [if_pos h1] at h; simp at h
    rw [if_neg h1] at h
    by_cases h2 : oth (beNum (begin_ x) (r.take (ones x.toNat))) ≠ ones x.toNat
    · rw [if_pos h2] at h; simp at h
    rw [if_neg h2] at h
    have h2 : oth (beNum (begin_ x) (r.take (ones x.toNat))) = ones x.toNat := Decidable.of_not_not h2
    simp only [Prod.mk.injEq, and_true] at h
    obtain ⟨h3, h4⟩ := h
    have hlen : (r.take (ones x.toNat)).length = ones x.toNat := by rw [List.length_take]; omega
    have hdiv := beNum_div (begin_ x) (r.take (ones x.toNat))
    have htail := tail8_beNum (begin_ x) (r.take (ones x.toNat))
    have hlt := beNum_lt (begin_ x) (r.take (ones x.toNat))
    rw [hlen] at hdiv htail hlt
    have hbe : begin_ x + 1 ≤ 2 ^ (7 - ones x.toNat) := by
      unfold begin_
      split
      · exact Nat.mod_lt _ (Nat.two_pow_pos _)
      · exact Nat.two_pow_pos _
    rw [h3] at h2 hdiv htail hlt
    have h8 := ones_le x.toNat
    refine ⟨by rw [← h4, List.length_cons]; omega, ?_, ?_⟩
    · rw [← h4, Nat.add_comm, List.take_succ_cons]
      unfold num
      rw [h2, htail]
      congr 1
      unfold lead
      rw [h2, hdiv]
      apply UInt8.toNat.inj
      rw [low8_toNat]
      unfold begin_
      rcases Nat.lt_or_ge (ones x.toNat) 8 with hk | hk
      · rw [if_pos hk, if_pos hk]
        have := first_says ⟨x.toNat, hx⟩ hk
        simp only at this
        omega
      · have e8 : ones x.toNat = 8 := by omega
        have := first_full ⟨x.toNat, hx⟩ e8
        simp only at this
        rw [if_neg (by omega), e8]
        omega
    · have : (begin_ x + 1) * 256 ^ ones x.toNat ≤ 2 ^ (7 - ones x.toNat) * 256 ^ ones x.toNat := Nat.mul_le_mul_right _ hbe
      have e : (256 : Nat) = 2 ^ 8 := rfl
      rw [e, ← Nat.pow_mul, ← Nat.pow_add] at this
      have h64 : 2 ^ (7 - ones x.toNat + 8 * ones x.toNat) ≤ 2 ^ 64 := Nat.pow_le_pow_right (by decide) (by omega)
      rw [e, ← Nat.pow_mul] at hlt
      omega
/-- What was put down is read as it was. -/
theorem getNum_of_num (v : Nat) (hv : v < 18446744073709551616) (r : List UInt8) : getNum (num v ++ r) = (v, (num v).length, 0) := by
  have ho := oth_le v
  have hl : (low8 (lead v)).toNat = lead v ∧ ones (lead v) = oth v ∧ begin_ (low8 (lead v)) = v / 256 ^ oth v := by
    rcases Nat.lt_or_ge (oth v) 8 with hk | hk
    · have hf := oth_fits hk
      have hp : (2 : Nat) ^ (7 - oth v) ≤ 2 ^ 7 := Nat.pow_le_pow_right (by decide) (by omega)
      obtain ⟨a1, a2, a3⟩ := ones_lead ⟨oth v, hk⟩ ⟨v / 256 ^ oth v, by simp only [Nat.reducePow] at hp; omega⟩ hf
      simp only at a1 a2 a3
      have hlead : lead v = 256 - 2 ^ (8 - oth v) + v / 256 ^ oth v := by unfold lead; rw [if_pos hk]
      rw [← hlead] at a1 a2 a3
      have ht : (low8 (lead v)).toNat = lead v := by rw [low8_toNat]; omega
      refine ⟨ht, a1, ?_⟩
      unfold begin_
      rw [ht, a1, if_pos hk, a2]
    · have e8 : oth v = 8 := by omega
      have hlead : lead v = 255 := by unfold lead; rw [e8]; rfl
      have ht : (low8 (lead v)).toNat = lead v := by rw [low8_toNat]; omega
      refine ⟨ht, by rw [hlead, e8]; rfl, ?_⟩
      unfold begin_
      rw [ht, hlead, e8, if_neg (by decide)]
      exact (Nat.div_eq_of_lt (by simp only [Nat.reducePow]; omega)).symm
  obtain ⟨h1, h2, h3⟩ := hl
  have hlen := tail8_length v (oth v)
  show getNum (low8 (lead v) :: (tail8 v (oth v) ++ r)) = _
  simp only [getNum]
  rw [h1, h2, h3]
  have htk : (tail8 v (oth v) ++ r).take (oth v) = tail8 v (oth v) := by
    rw [List.take_append_of_le_length (by omega), List.take_of_length_le (by omega)]
  rw [if_neg (by rw [List.length_append, hlen]; omega), htk, beNum_tail8, if_neg (by simp)]
  show (v, 1 + oth v, (0 : Int)) = (v, (tail8 v (oth v)).length + 1, (0 : Int))
  rw [hlen, Nat.add_comm]
theorem num_len (v : Nat) : (num v).length = 1 + oth v := by
  show (tail8 v (oth v)).length + 1 = _
  rw [tail8_length, Nat.add_comm]
end Go.Proofs.Ytegpoghgddjmaaa
