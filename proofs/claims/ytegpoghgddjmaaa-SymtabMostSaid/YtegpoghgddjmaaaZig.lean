/- The walks of pack's and the document's Zig, Zag. -/
import Derived.Test.YtegpoghgddjmaaaMemB
import Derived.Lib.Zigzag
namespace Go.Proofs.Ytegpoghgddjmaaa
open Go.RowKit
def zig (v : Int) : Int := if 0 ≤ v then 2 * v else -2 * v - 1
def zag (v : Int) : Int := if v % 2 = 0 then v / 2 else -1 - v / 2
theorem xor_zero_u64 (a : Int) (h0 : 0 ≤ a) (h1 : a < 18446744073709551616) : bits .xor .u64 a 0 = a := by
  obtain ⟨n, rfl⟩ := Int.eq_ofNat_of_zero_le h0
  have := bits_xor_u64_nat n 0 (by omega) (by decide)
  rw [Nat.xor_zero] at this
  exact this
theorem xor_ones_u64 (a : Int) (h0 : 0 ≤ a) (h1 : a < 18446744073709551616) : bits .xor .u64 a 18446744073709551615 = 18446744073709551615 - a := by
  obtain ⟨n, rfl⟩ := Int.eq_ofNat_of_zero_le h0
  have h := bits_xor_u64_nat n (2 ^ 64 - 1) (by omega) (by decide)
  rw [Nat.xor_comm, Lib.xor_ones64 n (by omega)] at h
  have e : ((2 ^ 64 - 1 - n : Nat) : Int) = 18446744073709551615 - (n : Int) := by omega
  exact h.trans e
theorem xor_zero_i64 (x : Nat) (hx : x < 9223372036854775808) : bits .xor .i64 (x : Int) 0 = (x : Int) := by
  show IntKind.i64.wrap ((BitVec.ofInt 64 (x : Int) ^^^ BitVec.ofInt 64 0).toNat : Int) = _
  have h2 : (BitVec.ofInt 64 (x : Int)).toNat = x := by
    rw [BitVec.ofInt_natCast, BitVec.toNat_ofNat]; exact Nat.mod_eq_of_lt (by omega)
  have h1 : (BitVec.ofInt 64 0).toNat = 0 := by decide
  rw [BitVec.toNat_xor, h1, h2, Nat.xor_zero, IntKind.wrap_i64]
  omega
theorem xor_neg1_i64 (x : Nat) (hx : x < 9223372036854775808) : bits .xor .i64 (x : Int) (-1) = -1 - (x : Int) := by
  have h := Lib.i64_not x hx
  have e : bits .xor .i64 (x : Int) (-1) = bits .xor .i64 (-1) (x : Int) := by
    show IntKind.i64.wrap ((BitVec.ofInt 64 (x : Int) ^^^ BitVec.ofInt 64 (-1)).toNat : Int) = IntKind.i64.wrap ((BitVec.ofInt 64 (-1) ^^^ BitVec.ofInt 64 (x : Int)).toNat : Int)
    rw [BitVec.xor_comm]
  rw [e, h]
  omega
theorem rzig_any (v : Int) (w : World) (h0 : -9223372036854775808 ≤ v) (h1 : v ≤ 9223372036854775807) : Calls Try.prog 18 #[.int .i64 v] w fun e w' => w' = w ∧ e = .returned (.int .u64 (zig v)) := by
  unfold zig
  by_cases h : 0 ≤ v
  · rw [if_pos h]
    go_enter Try.func18, Try.ntmps18
    go_wp2
    go_ret
    exact ⟨rfl, rfl⟩
  · rw [if_neg h]
    go_enter Try.func18, Try.ntmps18
    go_wp2
    go_ret
    exact ⟨rfl, by show Ending.returned (.int .u64 _) = _; congr 2; omega⟩
theorem zig_any (v : Int) (w : World) (h0 : -9223372036854775808 ≤ v) (h1 : v ≤ 9223372036854775807) : Calls Try.prog 17 #[.int .i64 v] w fun e w' => w' = w ∧ e = .returned (.int .u64 (zig v)) := by
  unfold zig
  by_cases h : 0 ≤ v
  · rw [if_pos h]
    go_enter Try.func17, Try.ntmps17
    go_wp2
    go_ret
    refine ⟨rfl, ?_⟩
    show Ending.returned (.int .u64 (bits .xor .u64 (v * 2) (v / 9223372036854775808))) = _
    rw [show v / 9223372036854775808 = 0 by omega, xor_zero_u64 _ (by omega) (by omega), Int.mul_comm]
  · rw [if_neg h]
    go_enter Try.func17, Try.ntmps17
    go_wp2
    go_ret
    refine ⟨rfl, ?_⟩
    show Ending.returned (.int .u64 (bits .xor .u64 (IntKind.u64.wrap (IntKind.u64.wrap v * 2)) (IntKind.u64.wrap (v / 9223372036854775808)))) = _
    rw [show IntKind.u64.wrap (IntKind.u64.wrap v * 2) = 2 * v + 18446744073709551616 by rw [IntKind.wrap_u64, IntKind.wrap_u64]; omega, show IntKind.u64.wrap (v / 9223372036854775808) = 18446744073709551615 by rw [IntKind.wrap_u64]; omega, xor_ones_u64 _ (by omega) (by omega)]
    congr 2
    omega
theorem zag_any (v : Int) (w : World) (h0 : 0 ≤ v) (h1 : v < 18446744073709551616) : Calls Try.prog 16 #[.int .u64 v] w fun e w' => w' = w ∧ e = .returned (.int .i64 (zag v)) := by
  unfold zag
  by_cases h : v % 2 = 0
  · rw [if_pos h]
    go_enter Try.func16, Try.ntmps16
    go_wp2
    go_ret
    refine ⟨rfl, ?_⟩
    show Ending.returned (.int .i64 (bits .xor .i64 (v / 2) (wrap64 (-wrap64 (bits BinOp.and IntKind.u64 v 1))))) = _
    obtain ⟨x, hx⟩ := Int.eq_ofNat_of_zero_le (show 0 ≤ v / 2 by omega)
    rw [Lib.u64_and1 v h0 h1, h, hx]
    have e : bits .xor .i64 (x : Int) (wrap64 (-wrap64 0)) = (x : Int) := by rw [show wrap64 (-wrap64 0) = 0 by unfold wrap64; omega]; exact xor_zero_i64 x (by omega)
    rw [e]
  · rw [if_neg h]
    go_enter Try.func16, Try.ntmps16
    go_wp2
    go_ret
    refine ⟨rfl, ?_⟩
    show Ending.returned (.int .i64 (bits .xor .i64 (v / 2) (wrap64 (-wrap64 (bits BinOp.and IntKind.u64 v 1))))) = _
    obtain ⟨x, hx⟩ := Int.eq_ofNat_of_zero_le (show 0 ≤ v / 2 by omega)
    rw [Lib.u64_and1 v h0 h1, show v % 2 = 1 by omega, hx]
    have e : bits .xor .i64 (x : Int) (wrap64 (-wrap64 1)) = -1 - (x : Int) := by rw [show wrap64 (-wrap64 1) = -1 by unfold wrap64; omega]; exact xor_neg1_i64 x (by omega)
    rw [e]
end Go.Proofs.Ytegpoghgddjmaaa
