/- Plain law of frames one behind the other, cut off anywhere. No program is run here. -/
import Derived.Test.YtlepallialmceaaPlainFrame
namespace Go.Proofs.Ytlepallialmceaa
open Go.RowKit

/-- The frames of payloads, one behind the other. -/
def frames (ls : List (List UInt8)) : List UInt8 := ls.flatMap wrap
/-- How many frames are whole in the first c bytes. -/
def wholes : List (List UInt8) → Nat → Nat
  | [], _ => 0
  | p :: ls, c => if 9 + p.length ≤ c then wholes ls (c - (9 + p.length)) + 1 else 0
/-- Where the first k frames end. -/
def endOf (ls : List (List UInt8)) (k : Nat) : Nat := (frames (ls.take k)).length
theorem frames_cons (p : List UInt8) (ls : List (List UInt8)) : frames (p :: ls) = wrap p ++ frames ls := rfl
theorem endOf_zero (ls : List (List UInt8)) : endOf ls 0 = 0 := rfl
theorem endOf_cons (p : List UInt8) (ls : List (List UInt8)) (k : Nat) : endOf (p :: ls) (k + 1) = 9 + p.length + endOf ls k := by
  unfold endOf
  rw [List.take_succ_cons, frames_cons, List.length_append, wrap_length]
theorem wholes_le : ∀ (ls : List (List UInt8)) (c : Nat), wholes ls c ≤ ls.length
  | [], _ => Nat.le_refl _
  | p :: ls, c => by
    unfold wholes
    split
    · have := wholes_le ls (c - (9 + p.length)); rw [List.length_cons]; omega
    · exact Nat.zero_le _
theorem endOf_iff : ∀ (ls : List (List UInt8)) (c i : Nat), i < ls.length → (endOf ls (i + 1) ≤ c ↔ i < wholes ls c)
  | [], _, i, h => by simp at h
  | p :: ls, c, i, h => by
    rw [endOf_cons]
    unfold wholes
    by_cases hc : 9 + p.length ≤ c
    · rw [if_pos hc]
      cases i with
      | zero => rw [endOf_zero]; omega
      | succ i =>
        have := endOf_iff ls (c - (9 + p.length)) i (by simpa using h)
        omega
    · rw [if_neg hc]
      omega
theorem first_cut (p : List UInt8) (c : Nat) (r : List UInt8) (hp : p.length ≤ 65536) (hc : c < 9 + p.length) (h0 : 0 < c) : first ((wrap p ++ r).take c) = ([], 0, 2) := by
  have hl : (wrap p ++ r).length = 9 + p.length + r.length := by rw [List.length_append, wrap_length]
  obtain ⟨D, hD⟩ : ∃ D, (wrap p ++ r).take c = D := ⟨_, rfl⟩
  have hDl : D.length = c := by rw [← hD, List.length_take, hl]; omega
  have hD0 : D[0]? = some 165 := by rw [← hD, List.getElem?_take, if_pos h0, wrap_eq]; rfl
  have hD1 : 9 ≤ c → num4 (D.drop 1) = p.length := fun h9 => by
    rw [← hD, wrap_eq]
    obtain ⟨k, rfl⟩ : ∃ k, c = k + 5 := ⟨c - 5, by omega⟩
    have e : (((165 : UInt8) :: (four p.length ++ (four (fsum p) ++ p)) ++ r).take (k + 5)).drop 1 = four p.length ++ (((four (fsum p) ++ p) ++ r).take k) := by
      simp [four]
    rw [e, num4_four _ (by omega)]
  rw [hD]
  unfold first
  rw [if_neg (fun e => by rw [e] at hDl; simp at hDl; omega), if_neg (fun h => h hD0)]
  by_cases h9 : D.length < 9
  · rw [if_pos h9]
  · rw [if_neg h9, hD1 (by omega), if_neg (by omega), if_pos (by omega)]
theorem scan_frames : ∀ (ls : List (List UInt8)) (c : Nat), (∀ p ∈ ls, p.length ≤ 65536) → c ≤ (frames ls).length →
    scan ((frames ls).take c) = (ls.take (wholes ls c), endOf ls (wholes ls c), if endOf ls (wholes ls c) = c then 0 else 2)
  | [], c, _, hc => by
    have : c = 0 := by simpa [frames] using hc
    subst this
    rfl
  | p :: ls, c, hp, hc => by
    have hp0 : p.length ≤ 65536 := hp p (List.mem_cons_self ..)
    rw [frames_cons, List.length_append, wrap_length] at hc
    rw [frames_cons]
    unfold wholes
    by_cases h : 9 + p.length ≤ c
    · rw [if_pos h, List.take_succ_cons, endOf_cons]
      have e : (wrap p ++ frames ls).take c = wrap p ++ (frames ls).take (c - (9 + p.length)) := by
        rw [List.take_append, wrap_length, List.take_of_length_le (by rw [wrap_length]; exact h)]
      have hf := first_wrap p ((frames ls).take (c - (9 + p.length))) hp0
      have ih := scan_frames ls (c - (9 + p.length)) (fun q hq => hp q (List.mem_cons_of_mem _ hq)) (by omega)
      rw [e, scan_go (by rw [hf]), hf]
      simp only
      have ed : (wrap p ++ (frames ls).take (c - (9 + p.length))).drop (9 + p.length) = (frames ls).take (c - (9 + p.length)) := by
        rw [show 9 + p.length = (wrap p).length from (wrap_length p).symm, List.drop_left]
      rw [ed, ih]
      simp only
      congr 2
      by_cases h2 : endOf ls (wholes ls (c - (9 + p.length))) = c - (9 + p.length)
      · rw [if_pos h2, if_pos (by omega)]
      · rw [if_neg h2, if_neg (by omega)]
    · rw [if_neg h, List.take_zero, endOf_zero]
      by_cases h0 : c = 0
      · subst h0
        rw [List.take_zero, scan_nil]
        rfl
      · have hf := first_cut p c (frames ls) hp0 (by omega) (by omega)
        rw [scan_stop (fun e => by
          have := congrArg List.length e
          rw [List.length_take, List.length_append, wrap_length] at this
          simp at this
          omega) (by rw [hf]; decide), hf, if_neg (by omega)]
end Go.Proofs.Ytlepallialmceaa
