/- The plain law of a message's bytes. -/
import Derived.Test.YtegpoghgddjmaaaNetRead
import Derived.Test.YtegpoghgddjmaaaNetRef2
namespace Go.Proofs.Ytegpoghgddjmaaa
open Go.RowKit
set_option maxRecDepth 100000

theorem getNum_err0 {l : List UInt8} {V N : Nat} {E : Int} (h : getNum l = (V, N, E)) (hE : E ≠ 0) : V = 0 ∧ N = 0 := by
  have h1 := numS_ok (l := l) (at_ := 0) (V := V) (N := N) (E := E) (by rw [List.drop_zero]; exact h)
  have h2 := numS_err l 0 0 (by rw [h1]; exact hE)
  rw [h1] at h2
  simpa using h2
theorem num_small (V : Nat) (h : V ≤ 1) : num V = [UInt8.ofNat V] := by
  match V, h with
  | 0, _ => decide +kernel
  | 1, _ => decide +kernel
theorem getNum_small {l : List UInt8} {V N : Nat} (h : getNum l = (V, N, 0)) (hV : V ≤ 1) : N = 1 ∧ l = UInt8.ofNat V :: l.drop 1 := by
  obtain ⟨h1, h2, _⟩ := getNum_num h
  rw [num_small V hV] at h2
  have h3 := congrArg List.length h2
  rw [List.length_take, Nat.min_eq_left h1] at h3
  simp at h3
  subst h3
  refine ⟨rfl, ?_⟩
  have := List.take_append_drop 1 l
  rw [← h2] at this
  exact this.symm
section
variable {l : List UInt8} {V N V2 N2 : Nat} {E E2 : Int}
theorem readS_err (h : getNum l = (V, N, E)) (hE : E ≠ 0) : (readS l).2.2.2 = E := by
  obtain ⟨rfl, rfl⟩ := getNum_err0 h hE
  have h1 := countS_err (l := l) (at_ := 0) (n := 1) (by rw [List.drop_zero]; exact h) hE
  unfold readS
  rw [h1]
  simp only
  rw [if_neg (by decide), textS_no hE]
  simp only [doneS]
  rw [if_neg (fun k => hE k.1)]
theorem readS_large (h : getNum l = (V, N, 0)) (hV : 1 < V) : (readS l).2.2.2 = 4 := by
  have h1 := countS_large (l := l) (at_ := 0) (n := 1) (by rw [List.drop_zero]; exact h) (.inr (by omega))
  unfold readS
  rw [h1]
  simp only
  rw [if_neg (by decide), textS_no (by decide)]
  rfl
theorem readS_one (h : getNum l = (1, N, 0)) : readS l = (true, (countS l 1 0 4503599627370497).1, [], doneS l (countS l 1 0 4503599627370497).2.1 (countS l 1 0 4503599627370497).2.2) := by
  obtain ⟨rfl, _⟩ := getNum_small h (by decide)
  have h1 := countS_ok (l := l) (at_ := 0) (n := 1) (by rw [List.drop_zero]; exact h) (by decide) (by decide)
  unfold readS
  rw [h1]
  simp only
  rw [if_pos trivial]
theorem readS_zero (h : getNum l = (0, N, 0)) : readS l = (false, 0, (textS l 1 0 65536).1, doneS l (textS l 1 0 65536).2.1 (textS l 1 0 65536).2.2) := by
  obtain ⟨rfl, _⟩ := getNum_small h (by decide)
  have h1 := countS_ok (l := l) (at_ := 0) (n := 1) (by rw [List.drop_zero]; exact h) (by decide) (by decide)
  unfold readS
  rw [h1]
  simp only
  rw [if_neg (by decide)]
theorem doneS_err (l : List UInt8) (a : Nat) (h : E ≠ 0) : doneS l a E = E := by unfold doneS; rw [if_neg (fun k => h k.1)]
theorem one_err (h : getNum l = (1, N, 0)) (h2 : getNum (l.drop 1) = (V2, N2, E2)) (hE : E2 ≠ 0) : (readS l).2.2.2 = E2 := by
  rw [readS_one h, countS_err h2 hE]; exact doneS_err _ _ hE
theorem zero_err (h : getNum l = (0, N, 0)) (h2 : getNum (l.drop 1) = (V2, N2, E2)) (hE : E2 ≠ 0) : (readS l).2.2.2 = E2 := by
  rw [readS_zero h, textS_err h2 hE]; exact doneS_err _ _ hE
theorem one_large (h : getNum l = (1, N, 0)) (h2 : getNum (l.drop 1) = (V2, N2, 0)) (hV : 4503599627370497 < V2) : (readS l).2.2.2 = 4 := by
  rw [readS_one h, countS_large h2 (.inr (by omega))]; exact doneS_err l 1 (show (4 : Int) ≠ 0 by decide)
theorem zero_large (h : getNum l = (0, N, 0)) (h2 : getNum (l.drop 1) = (V2, N2, 0)) (hV : 65536 < V2) : (readS l).2.2.2 = 4 := by
  rw [readS_zero h, textS_large h2 (.inr (by omega))]; exact doneS_err l 1 (show (4 : Int) ≠ 0 by decide)
theorem one_more (h : getNum l = (1, N, 0)) (h2 : getNum (l.drop 1) = (V2, N2, 0)) (hV : V2 ≤ 4503599627370497) (hm : 1 + N2 < l.length) : (readS l).2.2.2 = 3 := by
  rw [readS_one h, countS_ok h2 (by decide) (by omega)]; exact if_pos ⟨rfl, hm⟩
theorem one_fine (h : getNum l = (1, N, 0)) (h2 : getNum (l.drop 1) = (V2, N2, 0)) (hV : V2 ≤ 4503599627370497) (hm : ¬ 1 + N2 < l.length) : readS l = (true, V2, [], 0) := by
  rw [readS_one h, countS_ok h2 (by decide) (by omega)]
  have : doneS l (1 + N2) 0 = 0 := if_neg (fun k => hm k.2)
  simp only [this]
theorem zero_short (h : getNum l = (0, N, 0)) (h2 : getNum (l.drop 1) = (V2, N2, 0)) (hV : V2 ≤ 65536) (hs : l.length - (1 + N2) < V2) : (readS l).2.2.2 = 2 := by
  rw [readS_zero h, textS_short h2 (by decide) (by omega) hs]; exact doneS_err l 1 (show (2 : Int) ≠ 0 by decide)
theorem zero_more (h : getNum l = (0, N, 0)) (h2 : getNum (l.drop 1) = (V2, N2, 0)) (hV : V2 ≤ 65536) (hs : V2 < l.length - (1 + N2)) : (readS l).2.2.2 = 3 := by
  rw [readS_zero h, textS_ok h2 (by decide) (by omega) (by omega)]; exact if_pos (c := (0 : Int) = 0 ∧ 1 + N2 + V2 < l.length) ⟨rfl, by omega⟩
theorem zero_fine (h : getNum l = (0, N, 0)) (h2 : getNum (l.drop 1) = (V2, N2, 0)) (hV : V2 ≤ 65536) (hs : V2 = l.length - (1 + N2)) : readS l = (false, 0, l.drop (1 + N2), 0) := by
  rw [readS_zero h, textS_ok h2 (by decide) (by omega) (by omega)]
  have : doneS l (1 + N2 + V2) 0 = 0 := if_neg (fun k => by have := k.2; omega)
  simp only [this]
  rw [List.take_of_length_le (by rw [List.length_drop]; omega)]
end
theorem readS_mform (a : Bool) (h : Int) (l : List UInt8) (hr : rightS a h l.length = true) : readS (mform a h l) = (a, h.toNat, l, 0) := by
  obtain ⟨h1, h2, h3⟩ := right_in hr
  cases a with
  | true =>
    have hl : l = [] := by
      simp [rightS] at hr
      exact hr.2
    subst hl
    have e : mform true h [] = 1 :: num h.toNat := rfl
    rw [e]
    have g1 : getNum (1 :: num h.toNat) = (1, 1, 0) := by
      have := getNum_of_num 1 (by decide) (num h.toNat)
      rw [num_small 1 (by decide)] at this
      exact this
    have g2 : getNum ((1 :: num h.toNat).drop 1) = (h.toNat, (num h.toNat).length, 0) := by
      have := getNum_of_num h.toNat (by omega) []
      rw [List.append_nil] at this
      exact this
    exact one_fine g1 g2 (by omega) (by rw [List.length_cons]; omega)
  | false =>
    have hh : h = 0 := by
      simp [rightS] at hr
      exact hr.2
    subst hh
    have e : mform false 0 l = 0 :: (num l.length ++ l) := rfl
    rw [e]
    have g1 : getNum (0 :: (num l.length ++ l)) = (0, 1, 0) := by
      have := getNum_of_num 0 (by decide) (num l.length ++ l)
      rw [num_small 0 (by decide)] at this
      exact this
    have g2 : getNum ((0 :: (num l.length ++ l)).drop 1) = (l.length, (num l.length).length, 0) := getNum_of_num l.length (by omega) l
    rw [zero_fine g1 g2 (by omega) (by rw [List.length_cons, List.length_append]; omega)]
    rw [Nat.add_comm 1, List.drop_succ_cons, List.drop_left]
    rfl
theorem readS_back {b d : List UInt8} {a : Bool} {h : Nat} (hb : readS b = (a, h, d, 0)) : rightS a h d.length = true ∧ mform a h d = b := by
  have hz : (readS b).2.2.2 = 0 := by rw [hb]
  obtain ⟨⟨V, N, E⟩, hg⟩ : ∃ r, getNum b = r := ⟨_, rfl⟩
  by_cases hE : E = 0
  · subst hE
    rcases Nat.lt_or_ge 1 V with hV | hV
    · have := readS_large hg hV
      omega
    · obtain ⟨hN, hc⟩ := getNum_small hg hV
      obtain ⟨⟨V2, N2, E2⟩, h2⟩ : ∃ r, getNum (b.drop 1) = r := ⟨_, rfl⟩
      rcases (show V = 1 ∨ V = 0 by omega) with rfl | rfl
      · by_cases hE2 : E2 = 0
        · subst hE2
          obtain ⟨k1, k2, _⟩ := getNum_num h2
          rw [List.length_drop] at k1
          rcases Nat.lt_or_ge 4503599627370497 V2 with hv | hv
          · have := one_large hg h2 hv
            omega
          · by_cases hm : 1 + N2 < b.length
            · have := one_more hg h2 hv hm
              omega
            · rw [one_fine hg h2 hv hm] at hb
              injection hb with e1 hb
              injection hb with e2 hb
              injection hb with e3 _
              subst e1 e2 e3
              refine ⟨by simp [rightS]; omega, ?_⟩
              show 1 :: num ((V2 : Int).toNat) = b
              rw [List.take_of_length_le (by rw [List.length_drop]; omega)] at k2
              rw [Int.toNat_natCast, k2]
              exact hc.symm
        · have := one_err hg h2 hE2
          omega
      · by_cases hE2 : E2 = 0
        · subst hE2
          obtain ⟨k1, k2, _⟩ := getNum_num h2
          rw [List.length_drop] at k1
          rcases Nat.lt_or_ge 65536 V2 with hv | hv
          · have := zero_large hg h2 hv
            omega
          · rcases Nat.lt_trichotomy V2 (b.length - (1 + N2)) with hs | hs | hs
            · have := zero_more hg h2 hv hs
              omega
            · rw [zero_fine hg h2 hv hs] at hb
              injection hb with e1 hb
              injection hb with e2 hb
              injection hb with e3 _
              subst e1 e2 e3
              have hl : (b.drop (1 + N2)).length = V2 := by rw [List.length_drop]; omega
              refine ⟨by rw [hl]; simp [rightS]; omega, ?_⟩
              show 0 :: (num (b.drop (1 + N2)).length ++ b.drop (1 + N2)) = b
              rw [hl, k2, ← List.drop_drop, List.take_append_drop]
              exact hc.symm
            · have := zero_short hg h2 hv hs
              omega
        · have := zero_err hg h2 hE2
          omega
  · have := readS_err hg hE
    omega
end Go.Proofs.Ytegpoghgddjmaaa
