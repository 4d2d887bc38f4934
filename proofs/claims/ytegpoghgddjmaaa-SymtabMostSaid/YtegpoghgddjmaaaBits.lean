/- The walks of math/bits' lengths, as pack uses them. -/
import Derived.Test.YtegpoghgddjmaaaMemB
import Derived.Deep.Cut
namespace Go.Proofs.Ytegpoghgddjmaaa
open Go.RowKit

/-- The least k by which a number fits. -/
def oth (v : Nat) : Nat :=
  if v < 128 then 0 else if v < 16384 then 1 else if v < 2097152 then 2 else if v < 268435456 then 3 else if v < 34359738368 then 4
  else if v < 4398046511104 then 5 else if v < 562949953421312 then 6 else if v < 72057594037927936 then 7 else 8

def isLen (v r : Nat) : Prop := r ≤ 64 ∧ v < 2 ^ r ∧ (r = 0 ∨ 2 ^ (r - 1) ≤ v)

/-- The table of the lengths of the numbers below 256. -/
def tabOk (D : ByteArray) : Bool := (List.range 256).all fun i => decide (D.data[i]!.toNat ≤ 8) && decide (i < 2 ^ D.data[i]!.toNat) && (decide (D.data[i]!.toNat = 0) || decide (2 ^ (D.data[i]!.toNat - 1) ≤ i))
theorem tab_says {D : ByteArray} (h : tabOk D = true) (v : Nat) (hv : v < 256) (hs : v < D.size) : D[v].toNat ≤ 8 ∧ isLen v D[v].toNat := by
  have h1 := List.all_eq_true.1 h v (List.mem_range.2 hv)
  have e : D.data[v]! = D[v] := by
    have hs' : v < D.data.size := hs
    rw [getElem!_pos D.data v hs']; rfl
  rw [e] at h1
  simp only [Bool.and_eq_true, Bool.or_eq_true, decide_eq_true_eq] at h1
  obtain ⟨⟨h2, h3⟩, h4⟩ := h1
  exact ⟨h2, by omega, h3, h4⟩
theorem w64b (n : Int) (h : -9223372036854775808 ≤ n ∧ n ≤ 9223372036854775807) : wrap64 n = n := by unfold wrap64; omega

theorem len_close {D : ByteArray} {v : Nat} {hs : v < D.size} (hv : v < 256) (hD : tabOk D = true) : ∃ r, isLen v r ∧ r ≤ 8 ∧ Ending.returned (.int .i64 (wrap64 (D[v].toNat : Int))) = .returned (.int .i64 (r : Nat)) := by
  obtain ⟨h8, hl⟩ := tab_says hD v hv hs
  exact ⟨_, hl, h8, by rw [w64b _ (by omega)]⟩
/-- h bits are gone. -/
theorem isLen_up {v x h r : Nat} (hx : x = v / 2 ^ h) (hx0 : 0 < x) (hr : isLen x r) (h64 : h + r ≤ 64) : isLen v (h + r) := by
  obtain ⟨_, h2, h3⟩ := hr
  have hp : 0 < 2 ^ h := Nat.two_pow_pos h
  have hr0 : r ≠ 0 := fun e => by subst e; simp at h2; omega
  refine ⟨h64, ?_, .inr ?_⟩
  · rw [Nat.pow_add, Nat.mul_comm]
    subst hx
    exact (Nat.div_lt_iff_lt_mul hp).1 h2
  · rcases h3 with h3 | h3
    · exact absurd h3 hr0
    · rw [show h + r - 1 = h + (r - 1) by omega, Nat.pow_add, Nat.mul_comm]
      subst hx
      exact (Nat.le_div_iff_mul_le hp).1 h3

set_option maxRecDepth 100000
theorem len8_any (v : Nat) (w : World) (hv : v < 256) : Calls Try.prog 97 #[.int .u8 v] w fun e w' => w' = w ∧ ∃ r, isLen v r ∧ r ≤ 8 ∧ e = .returned (.int .i64 (r : Nat)) := by
  go_enter Try.func97, Try.ntmps97
  go_wp2
  go_ret
  show _ ∧ ∃ r, isLen v r ∧ r ≤ 8 ∧ Ending.returned (.int .i64 (wrap64 _)) = _
  exact ⟨rfl, len_close hv (by kernel_rfl)⟩
theorem len_close2 {D : ByteArray} {x : Nat} {hs : x < D.size} (hv : x < 256) (hD : tabOk D = true) (v h : Nat) (hx : ∀ r, isLen x r → r ≤ 8 → isLen v (h + r)) (hh : h ≤ 56) : ∃ r, isLen v r ∧ Ending.returned (.int .i64 (wrap64 ((h : Int) + wrap64 (D[x].toNat : Int)))) = .returned (.int .i64 (r : Nat)) := by
  obtain ⟨h8, hl⟩ := tab_says hD x hv hs
  exact ⟨_, hx _ hl h8, by rw [w64b (D[x].toNat : Int) (by omega), w64b _ (by omega), Int.natCast_add]⟩
theorem len_close0 {D : ByteArray} {x : Nat} {hs : x < D.size} (hv : x < 256) (hD : tabOk D = true) : ∃ r, isLen x r ∧ Ending.returned (.int .i64 (wrap64 (wrap64 (D[x].toNat : Int)))) = .returned (.int .i64 (r : Nat)) := by
  obtain ⟨h8, hl⟩ := tab_says hD x hv hs
  exact ⟨_, hl, by rw [w64b (D[x].toNat : Int) (by omega), w64b _ (by omega)]⟩
theorem len64_any (v : Nat) (w : World) (hv : v < 18446744073709551616) : Calls Try.prog 96 #[.int .u64 v] w fun e w' => w' = w ∧ ∃ r, isLen v r ∧ e = .returned (.int .i64 (r : Nat)) := by
  by_cases h1 : (4294967296 : Int) ≤ (v : Int)
  · obtain ⟨x, xq⟩ : ∃ x : Nat, (v : Int) / 4294967296 = (x : Int) := ⟨v / 4294967296, by omega⟩
    have hxl : x < 4294967296 := by omega
    by_cases h2 : (65536 : Int) ≤ (x : Int)
    · obtain ⟨y, yq⟩ : ∃ y : Nat, (x : Int) / 65536 = (y : Int) := ⟨x / 65536, by omega⟩
      have hyl : y < 65536 := by omega
      by_cases h3 : (256 : Int) ≤ (y : Int)
      · obtain ⟨z, zq⟩ : ∃ z : Nat, (y : Int) / 256 = (z : Int) := ⟨y / 256, by omega⟩
        have hzl : z < 256 := by omega
        have hb : z < 256 := by omega
        have Hup : Hid (∀ r, isLen z r → r ≤ 8 → isLen v (56 + r)) := fun r hr h8 => by rw [show 56 + r = (32 + (16 + (8 + r))) by omega]; exact (isLen_up (x := x) (h := 32) (by show x = v / 4294967296; omega) (by omega) (isLen_up (x := y) (h := 16) (by show y = x / 65536; omega) (by omega) (isLen_up (x := z) (h := 8) (by show z = y / 256; omega) (by omega) hr (by omega)) (by omega)) (by omega))
        go_enter Try.func96, Try.ntmps96
        go_upto_region 10 with fail
        clear h1 xq hxl h2 yq hyl h3 zq hzl hv
        go_wp2
        go_ret
        show _ ∧ ∃ r, isLen v r ∧ Ending.returned (.int .i64 (wrap64 (((56 : Nat) : Int) + wrap64 _))) = _
        exact ⟨rfl, len_close2 hb (by kernel_rfl) v 56 Hup.out (by decide)⟩
      · have hyl2 : y < 256 := by omega
        have hb : y < 256 := by omega
        have Hup : Hid (∀ r, isLen y r → r ≤ 8 → isLen v (48 + r)) := fun r hr h8 => by rw [show 48 + r = (32 + (16 + r)) by omega]; exact (isLen_up (x := x) (h := 32) (by show x = v / 4294967296; omega) (by omega) (isLen_up (x := y) (h := 16) (by show y = x / 65536; omega) (by omega) hr (by omega)) (by omega))
        go_enter Try.func96, Try.ntmps96
        go_upto_region 10 with fail
        clear h1 xq hxl h2 yq hyl h3 hyl2 hv
        go_wp2
        go_ret
        show _ ∧ ∃ r, isLen v r ∧ Ending.returned (.int .i64 (wrap64 (((48 : Nat) : Int) + wrap64 _))) = _
        exact ⟨rfl, len_close2 hb (by kernel_rfl) v 48 Hup.out (by decide)⟩
    · have hxl1 : x < 65536 := by omega
      by_cases h3 : (256 : Int) ≤ (x : Int)
      · obtain ⟨z, zq⟩ : ∃ z : Nat, (x : Int) / 256 = (z : Int) := ⟨x / 256, by omega⟩
        have hzl : z < 256 := by omega
        have hb : z < 256 := by omega
        have Hup : Hid (∀ r, isLen z r → r ≤ 8 → isLen v (40 + r)) := fun r hr h8 => by rw [show 40 + r = (32 + (8 + r)) by omega]; exact (isLen_up (x := x) (h := 32) (by show x = v / 4294967296; omega) (by omega) (isLen_up (x := z) (h := 8) (by show z = x / 256; omega) (by omega) hr (by omega)) (by omega))
        go_enter Try.func96, Try.ntmps96
        go_upto_region 10 with fail
        clear h1 xq hxl h2 hxl1 h3 zq hzl hv
        go_wp2
        go_ret
        show _ ∧ ∃ r, isLen v r ∧ Ending.returned (.int .i64 (wrap64 (((40 : Nat) : Int) + wrap64 _))) = _
        exact ⟨rfl, len_close2 hb (by kernel_rfl) v 40 Hup.out (by decide)⟩
      · have hxl2 : x < 256 := by omega
        have hb : x < 256 := by omega
        have Hup : Hid (∀ r, isLen x r → r ≤ 8 → isLen v (32 + r)) := fun r hr h8 => by rw [show 32 + r = (32 + r) by omega]; exact (isLen_up (x := x) (h := 32) (by show x = v / 4294967296; omega) (by omega) hr (by omega))
        go_enter Try.func96, Try.ntmps96
        go_upto_region 10 with fail
        clear h1 xq hxl h2 hxl1 h3 hxl2 hv
        go_wp2
        go_ret
        show _ ∧ ∃ r, isLen v r ∧ Ending.returned (.int .i64 (wrap64 (((32 : Nat) : Int) + wrap64 _))) = _
        exact ⟨rfl, len_close2 hb (by kernel_rfl) v 32 Hup.out (by decide)⟩
  · have hvl0 : v < 4294967296 := by omega
    by_cases h2 : (65536 : Int) ≤ (v : Int)
    · obtain ⟨y, yq⟩ : ∃ y : Nat, (v : Int) / 65536 = (y : Int) := ⟨v / 65536, by omega⟩
      have hyl : y < 65536 := by omega
      by_cases h3 : (256 : Int) ≤ (y : Int)
      · obtain ⟨z, zq⟩ : ∃ z : Nat, (y : Int) / 256 = (z : Int) := ⟨y / 256, by omega⟩
        have hzl : z < 256 := by omega
        have hb : z < 256 := by omega
        have Hup : Hid (∀ r, isLen z r → r ≤ 8 → isLen v (24 + r)) := fun r hr h8 => by rw [show 24 + r = (16 + (8 + r)) by omega]; exact (isLen_up (x := y) (h := 16) (by show y = v / 65536; omega) (by omega) (isLen_up (x := z) (h := 8) (by show z = y / 256; omega) (by omega) hr (by omega)) (by omega))
        go_enter Try.func96, Try.ntmps96
        go_upto_region 10 with fail
        clear h1 hvl0 h2 yq hyl h3 zq hzl hv
        go_wp2
        go_ret
        show _ ∧ ∃ r, isLen v r ∧ Ending.returned (.int .i64 (wrap64 (((24 : Nat) : Int) + wrap64 _))) = _
        exact ⟨rfl, len_close2 hb (by kernel_rfl) v 24 Hup.out (by decide)⟩
      · have hyl2 : y < 256 := by omega
        have hb : y < 256 := by omega
        have Hup : Hid (∀ r, isLen y r → r ≤ 8 → isLen v (16 + r)) := fun r hr h8 => by rw [show 16 + r = (16 + r) by omega]; exact (isLen_up (x := y) (h := 16) (by show y = v / 65536; omega) (by omega) hr (by omega))
        go_enter Try.func96, Try.ntmps96
        go_upto_region 10 with fail
        clear h1 hvl0 h2 yq hyl h3 hyl2 hv
        go_wp2
        go_ret
        show _ ∧ ∃ r, isLen v r ∧ Ending.returned (.int .i64 (wrap64 (((16 : Nat) : Int) + wrap64 _))) = _
        exact ⟨rfl, len_close2 hb (by kernel_rfl) v 16 Hup.out (by decide)⟩
    · have hvl1 : v < 65536 := by omega
      by_cases h3 : (256 : Int) ≤ (v : Int)
      · obtain ⟨z, zq⟩ : ∃ z : Nat, (v : Int) / 256 = (z : Int) := ⟨v / 256, by omega⟩
        have hzl : z < 256 := by omega
        have hb : z < 256 := by omega
        have Hup : Hid (∀ r, isLen z r → r ≤ 8 → isLen v (8 + r)) := fun r hr h8 => by rw [show 8 + r = (8 + r) by omega]; exact (isLen_up (x := z) (h := 8) (by show z = v / 256; omega) (by omega) hr (by omega))
        go_enter Try.func96, Try.ntmps96
        go_upto_region 10 with fail
        clear h1 hvl0 h2 hvl1 h3 zq hzl hv
        go_wp2
        go_ret
        show _ ∧ ∃ r, isLen v r ∧ Ending.returned (.int .i64 (wrap64 (((8 : Nat) : Int) + wrap64 _))) = _
        exact ⟨rfl, len_close2 hb (by kernel_rfl) v 8 Hup.out (by decide)⟩
      · have hvl2 : v < 256 := by omega
        have hb : v < 256 := by omega
        have Hup : Hid (∀ r, isLen v r → r ≤ 8 → isLen v (0 + r)) := fun r hr h8 => by rw [show 0 + r = r by omega]; exact hr
        go_enter Try.func96, Try.ntmps96
        go_upto_region 10 with fail
        clear h1 hvl0 h2 hvl1 h3 hvl2 hv
        go_wp2
        go_ret
        show _ ∧ ∃ r, isLen v r ∧ Ending.returned (.int .i64 (wrap64 (wrap64 _))) = _
        exact ⟨rfl, len_close0 hb (by kernel_rfl)⟩
theorem isLen_lt {v r : Nat} (h : isLen v r) (m : Nat) : v < 2 ^ m ↔ r ≤ m := by
  obtain ⟨_, h2, h3⟩ := h
  constructor
  · intro hm
    rcases h3 with h3 | h3
    · omega
    · rcases Nat.lt_or_ge m r with hlt | hge
      · have : 2 ^ m ≤ 2 ^ (r - 1) := Nat.pow_le_pow_right (by decide) (by omega)
        omega
      · exact hge
  · intro hm
    exact Nat.lt_of_lt_of_le h2 (Nat.pow_le_pow_right (by decide) hm)
theorem oth_len {v r : Nat} (h : isLen v r) : oth v = if 56 < r then 8 else (r - 1) / 7 := by
  have h1 := isLen_lt h 7
  have h2 := isLen_lt h 14
  have h3 := isLen_lt h 21
  have h4 := isLen_lt h 28
  have h5 := isLen_lt h 35
  have h6 := isLen_lt h 42
  have h7 := isLen_lt h 49
  have h8 := isLen_lt h 56
  unfold oth
  simp only [Nat.reducePow] at h1 h2 h3 h4 h5 h6 h7 h8
  simp only [h1, h2, h3, h4, h5, h6, h7, h8]
  clear h1 h2 h3 h4 h5 h6 h7 h8
  repeat' split
  all_goals omega
theorem zeros8_any (v : Nat) (w : World) (hv : v < 256) : Calls Try.prog 81 #[.int .u8 v] w fun e w' => w' = w ∧ ∃ r, isLen v r ∧ r ≤ 8 ∧ e = .returned (.int .i64 (8 - r : Nat)) := by
  go_enter Try.func81, Try.ntmps81
  go_wp2_with fail
  refine (len8_any v w hv).mono ?_
  rintro e w' ⟨rfl, r, hr, h8, rfl⟩
  go_wp2
  go_ret
  exact ⟨rfl, r, hr, h8, by show Ending.returned (.int .i64 _) = _; congr 2; omega⟩
theorem others_any (v : Nat) (w : World) (hv : v < 18446744073709551616) : Calls Try.prog 77 #[.int .u64 v] w fun e w' => w' = w ∧ e = .returned (.int .i64 (oth v : Nat)) := by
  go_enter Try.func77, Try.ntmps77
  go_wp2_with fail
  refine (len64_any v w hv).mono ?_
  rintro e w' ⟨rfl, r, hr, rfl⟩
  have h64 := hr.1
  have Hr := Lib.hid hr
  clear hr
  by_cases h56 : 56 < r
  · have ho := oth_len Hr.out
    rw [if_pos h56] at ho
    have ho := Lib.hid ho
    go_wp2
    go_ret
    exact ⟨rfl, by rw [ho.out]; rfl⟩
  · have ho := Lib.hid (oth_len Hr.out)
    go_wp2
    · go_ret
      refine ⟨rfl, ?_⟩
      have ho := ho.out
      rw [if_neg h56] at ho
      rw [ho]
      show Ending.returned (.int .i64 0) = _
      congr 2
      omega
    · go_ret
      refine ⟨rfl, ?_⟩
      have ho := ho.out
      rw [if_neg h56] at ho
      rw [ho]
      show Ending.returned (.int .i64 (((r : Int) - 1) / 7)) = _
      congr 2
      omega
end Go.Proofs.Ytegpoghgddjmaaa
