/- The walk of net.Take: of any message, in one. -/
import Derived.Test.YtegpoghgddjmaaaPlaysSt
namespace Go.Proofs.Ytegpoghgddjmaaa
open Go.RowKit
set_option maxRecDepth 100000

def NTakeAny (g i : Nat) (v : Value) (M : List Ms) (m : Ms) (w : World) (e : Ending) (w' : World) : Prop :=
  ∃ A' c' v', e = .returned (.tuple #[MV m.a m.h A' m.n c', .bool true]) ∧ OwnN w' g v' (M.take i ++ M.drop (i + 1)) ∧ Grew w w' g v v' ∧ Bytes w' w'.heap.size A' m.l ∧ (A' = none → c' = 0)
theorem ntake_yes (g i : Nat) (v : Value) (M : List Ms) (m : Ms) (w : World) (hN : OwnN w g v M) (hm : M[i]? = some m) (hl : m.n ≤ 140737488355328) :
    Calls Try.prog 43 #[.pointer (some ⟨g, 0, none⟩), .int .i64 i] w (NTakeAny g i v M m w) := by
  have hil := (List.getElem?_eq_some_iff.1 hm).1
  obtain ⟨q, c, rfl, _, _, _⟩ := hN.cells hm
  by_cases hlast : i + 1 < M.length
  · refine (ntake_mid g q c i M m w hN hm hlast hl).mono ?_
    rintro e w' ⟨A', c', rfl, h1, h2, h3, h4⟩
    exact ⟨A', c', _, rfl, h1, h2, h3, h4⟩
  · have hMe : M = M.take i ++ [m] := by
      have h := List.take_append_drop i M
      rw [List.drop_eq_getElem_cons hil, List.drop_eq_nil_of_le (by omega)] at h
      have e : M[i] = m := (List.getElem?_eq_some_iff.1 hm).2
      rw [e] at h
      exact h.symm
    have hd : M.drop (i + 1) = [] := List.drop_eq_nil_of_le (by omega)
    have hti : (M.take i).length = i := by rw [List.length_take]; omega
    have hl1 : M.length = (M.take i).length + 1 := by omega
    have hN' : OwnN w g (.slice (some ⟨q, 0, none⟩) ((M.take i).length + 1) c) (M.take i ++ [m]) := by rw [← hMe, ← hl1]; exact hN
    have h := ntake_last g q c (M.take i) m w hN' hl
    rw [hti] at h
    refine h.mono ?_
    rintro e w' ⟨A', c', rfl, h1, h2, h3, h4⟩
    unfold NTakeAny
    rw [hd, List.append_nil]
    refine ⟨A', c', _, rfl, h1, ?_, h3, h4⟩
    rw [← hl1] at h2
    exact h2
end Go.Proofs.Ytegpoghgddjmaaa
