/- The walk of the frame law FrameWraps. -/
import Derived.Test.YtlepallialmceaaFrameRef
import Derived.Test.YtlepallialmceaaLawFrameA
namespace Go.Proofs.Ytlepallialmceaa
open Go.RowKit

theorem size_no (n : Int) (w : World) (h : ¬ (0 ≤ n ∧ n ≤ 65536)) : Calls Try.prog 28 #[.int .i64 n] w fun e w' => e = .returned (.int .i64 0) ∧ w = w' := by
  have := size_any n w
  rwa [if_neg h] at this
theorem size_yes (n : Int) (w : World) (h : 0 ≤ n ∧ n ≤ 65536) : Calls Try.prog 28 #[.int .i64 n] w fun e w' => e = .returned (.int .i64 (9 + n)) ∧ w = w' := by
  have := size_any n w
  rwa [if_pos h] at this

set_option maxHeartbeats 4000000 in
theorem frameWraps_law (A : Option Addr) (n cap : Nat) (p : List UInt8) (s : Int) (w : World) (hA : Bytes w w.heap.size A p) (hn : p.length = n) (hl : n ≤ 9223372036854775807) :
    Calls Try.prog 12 #[.slice A n cap, .int .i64 s] w fun e w' => e = .returned (.bool true) ∧ Below w.heap.size w w' := by
  have Hn := Lib.hid hn
  clear hn
  by_cases hs0 : s < 0
  · by_cases hb : 3000 < n
    · go_enter Try.func12, Try.ntmps12
      go_wp2_with (first
        | (go_at_call 20; refine (awake04 _).mono ?_; rintro e w1 ⟨rfl, hb1⟩)
        | (go_at_call 28; refine (size_no s _ (by omega)).mono ?_; rintro e w' ⟨rfl, rfl⟩))
      go_ret
      exact ⟨rfl, hb1⟩
    · go_enter Try.func12, Try.ntmps12
      go_wp2_with fail
      refine (awake04 _).mono ?_
      rintro e w1 ⟨rfl, hb1⟩
      go_wp2_with fail
      refine (size_no s _ (by omega)).mono ?_
      rintro e w' ⟨rfl, rfl⟩
      go_wp2_with fail
      refine (wrap_any A cap n p _ ((hA.below hb1).more hb1.size) Hn.out (by omega)).mono ?_
      rintro e w2 ⟨A2, c2, rfl, ho2, hb2⟩
      have hb2 := nt hb1 hb2
      go_wp2_with fail
      refine (rwrap_any A n cap p _ ((hA.below hb2).more hb2.size) Hn.out (by omega)).mono ?_
      rintro e w3 ⟨A3, c3, rfl, hB3, hb3⟩
      have hf1 := fun W (h : Below w3.heap.size w3 W) => run_str W _ A2 (9 + p.length) c2 (wrap p) ((ho2.new_ hb3).bytes.1.below h) (wrap_length p)
      have hf2 := fun W (h : Below w3.heap.size w3 W) => run_str W _ A3 (9 + p.length) c3 (wrap p) (hB3.below h) (wrap_length p)
      have hf1 := hf1 w3 (nr _)
      have hf2 := hf2 w3 (nr _)
      have hb3 := nt hb2 hb3
      rw [Hn.out] at hf1 hf2 ⊢
      go_wp2_with (go_at_call 28; refine (size_yes n _ (by omega)).mono ?_; rintro e w' ⟨rfl, rfl⟩)
      go_ret
      exact ⟨rfl, hb3⟩
  by_cases hs1 : 65536 < s
  · by_cases hb : 3000 < n
    · go_enter Try.func12, Try.ntmps12
      go_wp2_with (first
        | (go_at_call 20; refine (awake04 _).mono ?_; rintro e w1 ⟨rfl, hb1⟩)
        | (go_at_call 28; refine (size_no s _ (by omega)).mono ?_; rintro e w' ⟨rfl, rfl⟩))
      go_ret
      exact ⟨rfl, hb1⟩
    · go_enter Try.func12, Try.ntmps12
      go_wp2_with fail
      refine (awake04 _).mono ?_
      rintro e w1 ⟨rfl, hb1⟩
      go_wp2_with fail
      refine (size_no s _ (by omega)).mono ?_
      rintro e w' ⟨rfl, rfl⟩
      go_wp2_with fail
      refine (wrap_any A cap n p _ ((hA.below hb1).more hb1.size) Hn.out (by omega)).mono ?_
      rintro e w2 ⟨A2, c2, rfl, ho2, hb2⟩
      have hb2 := nt hb1 hb2
      go_wp2_with fail
      refine (rwrap_any A n cap p _ ((hA.below hb2).more hb2.size) Hn.out (by omega)).mono ?_
      rintro e w3 ⟨A3, c3, rfl, hB3, hb3⟩
      have hf1 := fun W (h : Below w3.heap.size w3 W) => run_str W _ A2 (9 + p.length) c2 (wrap p) ((ho2.new_ hb3).bytes.1.below h) (wrap_length p)
      have hf2 := fun W (h : Below w3.heap.size w3 W) => run_str W _ A3 (9 + p.length) c3 (wrap p) (hB3.below h) (wrap_length p)
      have hf1 := hf1 w3 (nr _)
      have hf2 := hf2 w3 (nr _)
      have hb3 := nt hb2 hb3
      rw [Hn.out] at hf1 hf2 ⊢
      go_wp2_with (go_at_call 28; refine (size_yes n _ (by omega)).mono ?_; rintro e w' ⟨rfl, rfl⟩)
      go_ret
      exact ⟨rfl, hb3⟩
  · by_cases hb : 3000 < n
    · go_enter Try.func12, Try.ntmps12
      go_wp2_with (first
        | (go_at_call 20; refine (awake04 _).mono ?_; rintro e w1 ⟨rfl, hb1⟩)
        | (go_at_call 28; refine (size_yes s _ (by omega)).mono ?_; rintro e w' ⟨rfl, rfl⟩))
      go_ret
      exact ⟨rfl, hb1⟩
    · go_enter Try.func12, Try.ntmps12
      go_wp2_with fail
      refine (awake04 _).mono ?_
      rintro e w1 ⟨rfl, hb1⟩
      go_wp2_with fail
      refine (size_yes s _ (by omega)).mono ?_
      rintro e w' ⟨rfl, rfl⟩
      go_wp2_with fail
      refine (wrap_any A cap n p _ ((hA.below hb1).more hb1.size) Hn.out (by omega)).mono ?_
      rintro e w2 ⟨A2, c2, rfl, ho2, hb2⟩
      have hb2 := nt hb1 hb2
      go_wp2_with fail
      refine (rwrap_any A n cap p _ ((hA.below hb2).more hb2.size) Hn.out (by omega)).mono ?_
      rintro e w3 ⟨A3, c3, rfl, hB3, hb3⟩
      have hf1 := fun W (h : Below w3.heap.size w3 W) => run_str W _ A2 (9 + p.length) c2 (wrap p) ((ho2.new_ hb3).bytes.1.below h) (wrap_length p)
      have hf2 := fun W (h : Below w3.heap.size w3 W) => run_str W _ A3 (9 + p.length) c3 (wrap p) (hB3.below h) (wrap_length p)
      have hf1 := hf1 w3 (nr _)
      have hf2 := hf2 w3 (nr _)
      have hb3 := nt hb2 hb3
      rw [Hn.out] at hf1 hf2 ⊢
      go_wp2_with (go_at_call 28; refine (size_yes n _ (by omega)).mono ?_; rintro e w' ⟨rfl, rfl⟩)
      go_ret
      exact ⟨rfl, hb3⟩
end Go.Proofs.Ytlepallialmceaa
