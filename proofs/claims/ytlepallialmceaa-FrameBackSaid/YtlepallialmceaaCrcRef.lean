/- The walks of the document's answer for the check sum, and of the law's 'awake'. -/
import Derived.Test.YtlepallialmceaaCrcMat
namespace Go.Proofs.Ytlepallialmceaa
open Go.RowKit

theorem rstep_any (s : Nat) (w : World) (hs : s < 4294967296) :
    Calls Try.prog 19 #[.int .u32 s] w fun e w' => e = .returned (.int .u32 (Crc.step s)) ∧ w = w' := by
  by_cases h : s % 2 = 1
  · have h1 : (((s % 2 : Nat) : Int) == 1) = true := by rw [beq_iff_eq]; omega
    have e1 : bits .xor .u32 ((s : Int) / 2) 2197175160 = ((s / 2 ^^^ 2197175160 : Nat) : Int) := by
      rw [show ((s : Int) / 2) = ((s / 2 : Nat) : Int) by omega]
      exact u32_xor_nat (s / 2) 2197175160 (by omega) (by decide)
    have e2 : Hid (Crc.step s = s / 2 ^^^ 2197175160) := by unfold Crc.step; rw [if_pos h]; rfl
    go_enter Try.func19, Try.ntmps19
    go_wp2
    go_ret
    exact ⟨congrArg (fun n : Nat => Ending.returned (.int .u32 (n : Int))) e2.out.symm, rfl⟩
  · have h1 : (((s % 2 : Nat) : Int) == 1) = false := by rw [beq_eq_false_iff_ne]; omega
    have e2 : Hid (Crc.step s = s / 2) := by unfold Crc.step; rw [if_neg h]; rfl
    go_enter Try.func19, Try.ntmps19
    go_wp2
    go_ret
    exact ⟨congrArg (fun n : Nat => Ending.returned (.int .u32 (n : Int))) e2.out.symm, rfl⟩

set_option maxHeartbeats 400000 in
theorem rmore_any (sum : Nat) (A : Option Addr) (cap : Nat) (l : List UInt8) (w : World) (hs : sum < 4294967296) (hA : Bytes w w.heap.size A l) (hl : l.length ≤ 9223372036854775807) :
    Calls Try.prog 17 #[.int .u32 sum, .slice A l.length cap] w fun e w' => e = .returned (.int .u32 (Crc.run sum (nums l))) ∧ w = w' := by
  go_enter Try.func17, Try.ntmps17
  go_wp2
  go_loop [0, 5] (fun s i => ∃ k : Nat, k ≤ l.length ∧ i = .int .i64 k ∧ s = .int .u32 (Crc.run sum (nums (l.take k)))) (fun _ i => l.length - (intOf i).toNat)
  case atStart => exact ⟨0, by omega, rfl, rfl⟩
  case round =>
    obtain ⟨k, hk, rfl, rfl⟩ := hrel
    have hrl : Crc.run sum (nums (l.take k)) < 4294967296 := Crc.run_lt _ hs (nums_lt _)
    by_cases hlt : k < l.length
    · obtain ⟨b, off, x, rfl, hbB, hx, hc⟩ := hA.at_ hlt
      have Hx := Lib.hid (run_take_succ sum l k x hx)
      clear hx hA
      have hxl := x.toNat_lt
      generalize Crc.run sum (nums (l.take k)) = s at *
      have e1 := u32_xor_nat s x.toNat hrl (by omega)
      have hal := Crc.xor_lt hrl (show x.toNat < 4294967296 by omega)
      have Ha := Lib.hid (show Crc.byte s x.toNat = Crc.steps 8 (s ^^^ x.toNat) from rfl)
      generalize s ^^^ x.toNat = a at *
      go_wp2
      clear e1
      go_loop [0, 6] (fun s i => ∃ m : Nat, m ≤ 8 ∧ i = .int .i64 m ∧ s = .int .u32 (Crc.steps m a)) (fun _ i => 8 - (intOf i).toNat)
      case atStart => exact ⟨0, by omega, rfl, rfl⟩
      case round =>
        obtain ⟨m, hm, rfl, rfl⟩ := hrel
        have hml := Crc.steps_lt m hal
        by_cases hlt2 : m < 8
        · go_wp2_with (go_at_call 19; refine (rstep_any _ _ hml).mono ?_; rintro e w' ⟨rfl, rfl⟩)
          go_round
          case rel => exact ⟨m + 1, by omega, by go_num, congrArg (fun n : Nat => Value.int .u32 (n : Int)) (Crc.steps_add m 1 a).symm⟩
          case measure => simp [intOf]; omega
        · obtain rfl : m = 8 := by omega
          go_wp2
          go_round
          case rel => exact ⟨k + 1, by omega, by go_num, congrArg (fun n : Nat => Value.int .u32 (n : Int)) (Ha.out.symm.trans Hx.out.symm)⟩
          case measure => simp [intOf]; omega
    · obtain rfl : k = l.length := by omega
      rw [List.take_of_length_le (Nat.le_refl _)] at hrl
      go_wp2
      go_ret
      exact ⟨rfl, rfl⟩

theorem rof_any (A : Option Addr) (cap : Nat) (l : List UInt8) (w : World) (hA : Bytes w w.heap.size A l) (hl : l.length ≤ 9223372036854775807) :
    Calls Try.prog 15 #[.slice A l.length cap] w fun e w' => e = .returned (.int .u32 (Crc.more 0 (nums l))) ∧ w = w' := by
  have hlt : Crc.run 4294967295 (nums l) < 4294967296 := Crc.run_lt _ (by decide) (nums_lt _)
  have he : Hid (Crc.more 0 (nums l) = 4294967295 - Crc.run 4294967295 (nums l)) := by
    unfold Hid Crc.more
    rw [show Crc.flip 0 = 4294967295 by decide, Crc.flip_sub hlt]
  go_enter Try.func15, Try.ntmps15
  go_wp2_with (go_at_call 17; refine (rmore_any 4294967295 _ _ _ _ (by decide) hA hl).mono ?_; rintro e w' ⟨rfl, rfl⟩)
  go_ret
  exact ⟨congrArg (fun n : Int => Ending.returned (.int .u32 n)) (by rw [he.out]; omega), rfl⟩

theorem c19 : Crc.more 0 (nums [49, 50, 51, 52, 53, 54, 55, 56, 57]) = 3808858755 := by decide +kernel
theorem cMore : Crc.more (Crc.more 0 (nums [49, 50, 51, 52])) (nums [53, 54, 55, 56, 57]) = 3808858755 := by decide +kernel
theorem cJoin : Crc.join (Crc.more 0 (nums [49, 50, 51, 52])) (Crc.more 0 (nums [53, 54, 55, 56, 57])) 5 = 3808858755 := by decide +kernel
theorem l14 : Crc.more 0 (nums [49, 50, 51, 52]) < 4294967296 := by decide +kernel
theorem l59 : Crc.more 0 (nums [53, 54, 55, 56, 57]) < 4294967296 := by decide +kernel
theorem c00 : Crc.more 0 (nums []) = 0 := by decide +kernel
set_option maxHeartbeats 400000 in
theorem awake03 (w : World) : Calls Try.prog 13 #[] w fun e w' => e = .returned (.bool true) ∧ Below w.heap.size w w' := by
  have kc := fun (w : World) (C : Array Value) (n c : Nat) => Lib.run_convert_bytes_const (P := Try.prog) w 22 5 C n c Try.underlying22 Try.underlying5
  go_enter Try.func13, Try.ntmps13
  go_wp2_with fail
  refine (of_any _ _ [49, 50, 51, 52, 53, 54, 55, 56, 57] _ (Bytes.new _ _ _ _ _ rfl) (by decide)).mono ?_
  rintro e w1 ⟨rfl, hb1⟩
  rw [c19]
  go_wp2_with fail
  refine (of_any _ _ [] _ (Bytes.nil_ _) (by decide)).mono ?_
  rintro e w2 ⟨rfl, hb2⟩
  rw [c00]
  go_wp2_with fail
  refine (of_any _ _ [49, 50, 51, 52] _ (Bytes.new _ _ _ _ _ rfl) (by decide)).mono ?_
  rintro e w3 ⟨rfl, hb3⟩
  go_wp2_with fail
  refine (more_any _ _ _ [53, 54, 55, 56, 57] _ l14 (Bytes.new _ _ _ _ _ rfl) (by decide)).mono ?_
  rintro e w4 ⟨rfl, hb4⟩
  rw [cMore]
  go_wp2_with fail
  refine (of_any _ _ [49, 50, 51, 52] _ (Bytes.new _ _ _ _ _ rfl) (by decide)).mono ?_
  rintro e w5 ⟨rfl, hb5⟩
  go_wp2_with fail
  refine (of_any _ _ [53, 54, 55, 56, 57] _ (Bytes.new _ _ _ _ _ rfl) (by decide)).mono ?_
  rintro e w6 ⟨rfl, hb6⟩
  go_wp2_with fail
  refine (join_any _ _ 5 _ l14 l59 (by decide) (by decide)).mono ?_
  rintro e w7 ⟨rfl, hb7⟩
  rw [cJoin]
  go_wp2_with fail
  go_ret
  exact ⟨rfl, nt (nt (na (nt (na (nt (na (nt (na (nt (nt (na (nr w) _) hb1) hb2) _) hb3) _) hb4) _) hb5) _) hb6) hb7⟩

theorem rof_n (A : Option Addr) (n cap : Nat) (l : List UInt8) (w : World) (hA : Bytes w w.heap.size A l) (hn : l.length = n) (hl : n ≤ 9223372036854775807) :
    Calls Try.prog 15 #[.slice A n cap] w fun e w' => e = .returned (.int .u32 (Crc.more 0 (nums l))) ∧ w = w' := by
  subst hn; exact rof_any A cap l w hA hl
end Go.Proofs.Ytlepallialmceaa
