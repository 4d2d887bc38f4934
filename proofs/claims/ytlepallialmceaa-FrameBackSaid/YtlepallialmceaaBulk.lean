/- The walk of the document's Bulk. -/
import Derived.Test.YtlepallialmceaaSame
import Derived.Test.YtlepallialmceaaPlainBack
namespace Go.Proofs.Ytlepallialmceaa
open Go.RowKit

/-- How many bytes lists have, each list counted one more; long ones cut. -/
def bulk : List (List UInt8) → Nat
  | [] => 0
  | p :: ls => 1 + min p.length 3001 + bulk ls
theorem bulk_app : ∀ (a b : List (List UInt8)), bulk (a ++ b) = bulk a + bulk b
  | [], b => by simp [bulk]
  | p :: a, b => by rw [List.cons_append]; show 1 + min p.length 3001 + bulk (a ++ b) = 1 + min p.length 3001 + bulk a + bulk b; rw [bulk_app a b]; omega
theorem bulk_snoc {ls : List (List UInt8)} {k : Nat} {p : List UInt8} (h : ls[k]? = some p) : bulk (ls.take (k + 1)) = bulk (ls.take k) + (1 + min p.length 3001) := by
  rw [take_one_more h, bulk_app]; rfl
theorem bulk_small : ∀ (ls : List (List UInt8)), bulk ls ≤ 3000 → (frames ls).length ≤ 10 * bulk ls ∧ ls.length ≤ bulk ls ∧ ∀ p ∈ ls, p.length ≤ 3000
  | [], _ => ⟨Nat.le_refl _, Nat.le_refl _, fun p h => by cases h⟩
  | p :: ls, h => by
    unfold bulk at h ⊢
    obtain ⟨h1, h2, h3⟩ := bulk_small ls (by omega)
    refine ⟨?_, by rw [List.length_cons]; omega, fun q hq => ?_⟩
    · rw [frames_cons, List.length_append, wrap_length]; omega
    · rcases List.mem_cons.1 hq with rfl | hq
      · omega
      · exact h3 q hq
def BulkPost (ls : List (List UInt8)) (w : World) (e : Ending) (w' : World) : Prop :=
  w' = w ∧ ∃ N : Nat, e = .returned (.int .i64 N) ∧ (3000 < N ∨ bulk ls = N)
set_option maxHeartbeats 1000000 in
theorem bulk_any (A : Option Addr) (n c : Nat) (ls : List (List UInt8)) (w : World) (hA : Rows w w.heap.size A ls) (hn : ls.length = n) (hl : n ≤ 9223372036854775807) :
    Calls Try.prog 27 #[.slice A n c, .int .i64 3000] w (BulkPost ls w) := by
  go_enter Try.func27, Try.ntmps27
  go_wp2
  have Hn := Lib.hid hn
  clear hn
  go_loop [5, 6] (fun s i => ∃ k N : Nat, k ≤ n ∧ i = .int .i64 k ∧ s = .int .i64 N ∧ Hid (bulk (ls.take k) = N) ∧ N ≤ 6002) (fun s i => n - (intOf i).toNat)
  case atStart => exact ⟨0, 0, by omega, rfl, rfl, rfl, by omega⟩
  case round =>
    obtain ⟨k, N, hk, rfl, rfl, hH, hN⟩ := hrel
    by_cases hend : k = n
    · subst hend
      have hz := Lib.hid (show bulk ls = N by have := hH.out; rwa [List.take_of_length_le (by rw [Hn.out]; omega)] at this)
      go_wp2_with fail
      go_ret
      exact ⟨rfl, N, rfl, .inr hz.out⟩
    · have hlt : k < n := by omega
      by_cases hm : 3000 < N
      · have hmi : (3000 : Int) < (N : Int) := by omega
        go_wp2_with fail
        go_ret
        exact ⟨rfl, N, rfl, .inl hm⟩
      · have hmi : (N : Int) ≤ 3000 := by omega
        obtain ⟨b1, o1, p1, P1, d1, rfl, _, hp1, hx1, _⟩ := hA.at_ (k := k) (by rw [Hn.out]; exact hlt)
        have Hb := Lib.hid (bulk_snoc hp1)
        clear hp1
        by_cases h3 : 3001 < p1.length
        · have h3i : (3001 : Int) < (p1.length : Int) := by omega
          have hs := Lib.hid (show bulk (ls.take (k + 1)) = N + 3002 by rw [Hb.out, hH.out]; omega)
          go_wp2_with fail
          go_round
          case rel => exact ⟨k + 1, N + 3002, by omega, by go_num, by go_num, hs.out, by omega⟩
          case measure => simp [intOf]; omega
        · have h3i : (p1.length : Int) ≤ 3001 := by omega
          have hs := Lib.hid (show bulk (ls.take (k + 1)) = N + 1 + p1.length by rw [Hb.out, hH.out]; omega)
          go_wp2_with fail
          go_round
          case rel => exact ⟨k + 1, N + 1 + p1.length, by omega, by go_num, by go_num, hs.out, by omega⟩
          case measure => simp [intOf]; omega
end Go.Proofs.Ytlepallialmceaa
