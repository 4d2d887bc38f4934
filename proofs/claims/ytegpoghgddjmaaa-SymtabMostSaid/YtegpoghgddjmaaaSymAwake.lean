/- The walk of limnographlaw34's awake. -/
import Derived.Test.YtegpoghgddjmaaaSymBuild
import Derived.Test.YtegpoghgddjmaaaSymOpen
import Derived.Test.YtegpoghgddjmaaaSymPrefix
namespace Go.Proofs.Ytegpoghgddjmaaa
open Go.RowKit
set_option maxRecDepth 100000

theorem build_bytes {w' : World} {B : Nat} {A : Option Addr} {n c : Nat} {l : List UInt8} (h : Own w' B (.slice A n c) l) : Bytes w' w'.heap.size A l ∧ l.length = n ∧ (A = none → c = 0) := ⟨h.bytes.1, h.bytes.2.symm, own_nil h⟩
theorem OpenPost.yes {l : List UInt8} {L : List (List UInt8)} {w w' : World} {e : Ending} (h : OpenPost l w e w') (ho : openS l = (0, L)) : ∃ g v xs, e = .returned (.tuple #[.pointer (some ⟨g, 0, none⟩), .int .i64 0]) ∧ Tab w' g L v xs ∧ L.length ≤ 4096 ∧ Below w.heap.size w w' := by
  obtain ⟨hb, h | h⟩ := h
  · rw [ho] at h; exact absurd rfl h.1
  · rw [ho] at h
    obtain ⟨_, g, v, xs, h1, h2, h3⟩ := h
    exact ⟨g, v, xs, h1, h2, h3, hb⟩
def L34 : List (List UInt8) := [[97, 98], [97, 98, 99]]
theorem L34_e : buildE L34 = 0 := by decide +kernel
theorem L34_r : buildR L34 = [2, 0, 2, 97, 98, 2, 1, 99] := by decide +kernel
theorem L34_p : belowS L34 [97, 98] = 0 ∧ beginsN L34 [97, 98] = 2 ∧ belowS L34 [97, 98, 99] = 1 ∧ foundS L34 [97, 98, 99] = true := by decide +kernel
theorem L34_len (k : Nat) (l : List UInt8) (h : L34[k]? = some l) : l.length ≤ 9223372036854775807 := by
  match k, h with
  | 0, h => simp [L34] at h; subst h; decide
  | 1, h => simp [L34] at h; subst h; decide
  | k + 2, h => simp [L34] at h
theorem L34_strs (w : World) : Strs (w.alloc (.cells #[S8 [97, 98], S8 [97, 98, 99]] 9)) (w.alloc (.cells #[S8 [97, 98], S8 [97, 98, 99]] 9)).heap.size (some ⟨w.heap.size, 0, none⟩) L34 := fun _ => by
  refine ⟨w.heap.size, 0, rfl, by simp, fun j l hj => ⟨?_, L34_len j l hj⟩⟩
  rw [Nat.zero_add, cell_of_row _ _ _ _ _ _ (heap_alloc_new w _)]
  match j, hj with
  | 0, h => simp [L34] at h; subst h; rfl
  | 1, h => simp [L34] at h; subst h; rfl
  | k + 2, h => simp [L34] at h
theorem buildR_built {L : List (List UInt8)} (h : buildE L = 0) : openS (buildR L) = (0, L) := by
  unfold buildR
  rw [if_pos h]
  exact open_built h
theorem bodyS_len : ∀ (r : List (List UInt8)) (i : Nat) (a : List UInt8), errS i a r = 0 → (bodyS i a r).length ≤ 418 * r.length
  | [], _, _, _ => by simp [bodyS]
  | s :: r, i, a, h => by
    rw [errS_cons] at h
    by_cases hf : followsS i a s = 0
    · rw [if_pos hf] at h
      have ih := bodyS_len r (i + 1) s h
      have hs := followsS_len hf
      have h1 := num_length (sharedS i a s)
      have h2 := num_length (s.drop (sharedS i a s)).length
      have h3 : (s.drop (sharedS i a s)).length ≤ s.length := by rw [List.length_drop]; omega
      rw [bodyS_cons, List.length_append]
      unfold entryS
      simp only [List.length_append, List.length_cons]
      omega
    · rw [if_neg hf] at h; exact absurd h hf
theorem buildR_len (L : List (List UInt8)) : (buildR L).length ≤ 140737488355328 := by
  unfold buildR
  by_cases h : buildE L = 0
  · rw [if_pos h]
    unfold buildE at h
    by_cases hl : 4096 < L.length
    · rw [if_pos hl] at h; cases h
    · rw [if_neg hl] at h
      have := bodyS_len L 0 [] h
      have h1 := num_length L.length
      unfold buildB
      rw [List.length_append]
      omega
  · rw [if_neg h]; simp
set_option maxHeartbeats 4000000 in
theorem awake34_any (w : World) : Calls Try.prog 62 #[] w fun e w' => e = .returned (.bool true) ∧ Below w.heap.size w w' := by
  have hb0 := na (nr w) (.cells #[S8 [97, 98], S8 [97, 98, 99]] 9)
  have hB := build_any (some ⟨w.heap.size, 0, none⟩) 2 2 L34 _ (L34_strs w) rfl (by decide)
  have H0 := Lib.hid (And.intro hb0 hB)
  clear hb0 hB
  go_enter Try.func62, Try.ntmps62
  go_wp2_with fail
  refine H0.out.2.mono ?_
  rintro e w1 ⟨A1, n1, c1, rfl, ho, hb1⟩
  rw [L34_e]
  rw [L34_r] at ho
  obtain ⟨hby, hn1, hc1⟩ := build_bytes ho
  have hop := open_any A1 n1 c1 _ w1 hby hn1 (by rw [← hn1]; decide) hc1
  have H1 := Lib.hid (And.intro (nt H0.out.1 hb1) (And.intro hop (And.intro hby hn1)))
  clear ho hb1 hby hn1 hc1 hop
  go_wp2_with fail
  refine H1.out.2.1.mono ?_
  rintro e w2 hpost
  obtain ⟨g, v, xs, rfl, hT, hl, hb2⟩ := hpost.yes (by rw [← L34_r]; exact buildR_built L34_e)
  have r1 := run_str w2 _ A1 n1 c1 _ ((H1.out.2.2.1.below hb2).more hb2.size) H1.out.2.2.2
  have H2 := Lib.hid (And.intro (nt H1.out.1 hb2) (And.intro hT hl))
  clear hpost hT hl hb2
  go_wp2_with fail
  refine (prefix_any g L34 [97, 98] v xs w2 H2.out.2.1 H2.out.2.2 (build_order L34_e).1).mono ?_
  rintro e w3 ⟨rfl, hb3⟩
  rw [L34_p.1, L34_p.2.1]
  have H3 := Lib.hid (And.intro (nt H2.out.1 hb3) (H2.out.2.1.new_ hb3))
  clear hb3 r1
  go_wp2_with fail
  refine (find_any g L34 [97, 98, 99] v xs w3 H3.out.2 H2.out.2.2 (build_order L34_e).1).mono ?_
  rintro e w4 ⟨rfl, hb4⟩
  rw [L34_p.2.2.1, L34_p.2.2.2, if_pos rfl]
  have H4 := Lib.hid (And.intro (nt H3.out.1 hb4) (H3.out.2.new_ hb4))
  clear hb4
  go_wp2_with fail
  refine (len_any g L34 v xs w4 H4.out.2).mono ?_
  rintro e w5 ⟨rfl, rfl⟩
  go_wp2_with fail
  go_ret
  exact ⟨rfl, H4.out.1⟩
end Go.Proofs.Ytegpoghgddjmaaa
