/- The law PackInts: its walk and the plain law of Zig and Zag. -/
import Derived.Test.YtegpoghgddjmaaaAwake02
namespace Go.Proofs.Ytegpoghgddjmaaa
open Go.RowKit
set_option maxRecDepth 100000

theorem zag_zig (a : Int) : zag (zig a) = a := by
  unfold zig
  split
  · unfold zag; rw [if_pos (by omega)]; omega
  · unfold zag; rw [if_neg (by omega)]; omega
theorem zig_zag (v : Int) (h : 0 ≤ v) : zig (zag v) = v := by
  unfold zag
  split
  · unfold zig; rw [if_pos (by omega)]; omega
  · unfold zig; rw [if_neg (by omega)]; omega
theorem zig_in (a : Int) (h0 : -9223372036854775808 ≤ a) (h1 : a ≤ 9223372036854775807) : 0 ≤ zig a ∧ zig a < 18446744073709551616 := by
  unfold zig; split <;> omega
theorem zag_in (v : Int) (h0 : 0 ≤ v) (h1 : v < 18446744073709551616) : -9223372036854775808 ≤ zag v ∧ zag v ≤ 9223372036854775807 := by
  unfold zag; split <;> omega
theorem zig_inj (a b : Int) : (zig a == zig b) = (a == b) := by
  rw [Bool.eq_iff_iff, beq_iff_eq, beq_iff_eq]
  exact ⟨fun h => by rw [← zag_zig a, h, zag_zig], fun h => by rw [h]⟩

theorem packInts_law (a b v : Int) (w : World) (ha0 : -9223372036854775808 ≤ a) (ha1 : a ≤ 9223372036854775807) (hb0 : -9223372036854775808 ≤ b) (hb1 : b ≤ 9223372036854775807) (hv0 : 0 ≤ v) (hv1 : v < 18446744073709551616) :
    Calls Try.prog 3 #[.int .i64 a, .int .i64 b, .int .u64 v] w fun e w' => e = .returned (.bool true) ∧ Below w.heap.size w w' := by
  have z1 := zig_in a ha0 ha1
  have z3 := zag_in v hv0 hv1
  go_enter Try.func3, Try.ntmps3
  go_wp2_with fail
  refine (awake02_any w).mono ?_
  rintro e w1 ⟨rfl, hB⟩
  have HB := Lib.hid hB
  clear hB
  go_wp2_with fail
  refine (zig_any a w1 ha0 ha1).mono ?_
  rintro e w' ⟨rfl, rfl⟩
  go_wp2_with fail
  refine (zag_any (zig a) w' z1.1 z1.2).mono ?_
  rintro e w' ⟨rfl, rfl⟩
  rw [zag_zig]
  go_wp2_with fail
  refine (zag_any v w' hv0 hv1).mono ?_
  rintro e w' ⟨rfl, rfl⟩
  go_wp2_with fail
  refine (zig_any (zag v) w' z3.1 z3.2).mono ?_
  rintro e w' ⟨rfl, rfl⟩
  rw [zig_zag v hv0]
  go_wp2_with fail
  refine (zig_any a w' ha0 ha1).mono ?_
  rintro e w' ⟨rfl, rfl⟩
  go_wp2_with fail
  refine (zig_any b w' hb0 hb1).mono ?_
  rintro e w' ⟨rfl, rfl⟩
  have hq := zig_inj a b
  go_wp2_with fail
  refine (zig_any a w' ha0 ha1).mono ?_
  rintro e w' ⟨rfl, rfl⟩
  go_wp2_with fail
  refine (rzig_any a w' ha0 ha1).mono ?_
  rintro e w' ⟨rfl, rfl⟩
  go_wp2_with fail
  go_ret
  exact ⟨rfl, HB.out⟩
end Go.Proofs.Ytegpoghgddjmaaa
