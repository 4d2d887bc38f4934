/- The walks of the check sum's laws CrcIs, CrcJoins, CrcLong, CrcTells. -/
import Derived.Test.YtlepallialmceaaCrcRef
namespace Go.Proofs.Ytlepallialmceaa
open Go.RowKit

set_option maxHeartbeats 400000 in
theorem crcIs_law (A : Option Addr) (cap : Nat) (l : List UInt8) (s : Nat) (w : World) (hA : Bytes w w.heap.size A l) (hl : l.length ≤ 9223372036854775807) (hs : s < 4294967296) :
    Calls Try.prog 3 #[.slice A l.length cap, .int .u32 s] w fun e w' => e = .returned (.bool true) ∧ Below w.heap.size w w' := by
  have hm : Crc.more s (nums l) < 4294967296 := Crc.more_lt hs (nums_lt _)
  have hr : Crc.run (4294967295 - s) (nums l) < 4294967296 := Crc.run_lt _ (by omega) (nums_lt _)
  have he : Hid (Crc.more s (nums l) = 4294967295 - Crc.run (4294967295 - s) (nums l)) := by
    unfold Hid Crc.more
    rw [Crc.flip_sub hs, Crc.flip_sub hr]
  by_cases hb : 3000 < l.length
  · go_enter Try.func3, Try.ntmps3
    go_wp2_with (go_at_call 13; refine (awake03 _).mono ?_; rintro e w1 ⟨rfl, hb1⟩)
    go_ret
    exact ⟨rfl, hb1⟩
  · go_enter Try.func3, Try.ntmps3
    go_wp2_with fail
    refine (awake03 _).mono ?_
    rintro e w1 ⟨rfl, hb1⟩
    go_wp2_with fail
    have h1 := Lib.hid ((hA.below hb1).more hb1.size)
    refine (of_any _ _ l _ h1.out hl).mono ?_
    rintro e w2 ⟨rfl, hb2⟩
    have hb2 := nt hb1 hb2
    clear hb1 h1
    go_wp2_with fail
    refine (rof_any _ _ l _ ((hA.below hb2).more hb2.size) hl).mono ?_
    rintro e w' ⟨rfl, rfl⟩
    go_wp2_with fail
    refine (more_any _ _ _ l _ hs ((hA.below hb2).more hb2.size) hl).mono ?_
    rintro e w3 ⟨rfl, hb3⟩
    have hb3 := nt hb2 hb3
    clear hb2
    go_wp2_with fail
    rw [show (4294967295 - (s : Int)) = ((4294967295 - s : Nat) : Int) by omega]
    refine (rmore_any _ _ _ l _ (by omega) ((hA.below hb3).more hb3.size) hl).mono ?_
    rintro e w' ⟨rfl, rfl⟩
    have e1 : ((Crc.more s (nums l) : Int) == 4294967295 - (Crc.run (4294967295 - s) (nums l) : Int)) = true := by rw [beq_iff_eq, he.out]; omega
    go_wp2_with fail
    go_ret
    exact ⟨rfl, hb3⟩

/-! ### CrcJoins -/
set_option maxHeartbeats 400000 in
theorem crcJoins_law (a b : Nat) (n : Int) (w : World) (ha : a < 4294967296) (hb : b < 4294967296) :
    Calls Try.prog 5 #[.int .u32 a, .int .u32 b, .int .i64 n] w fun e w' => e = .returned (.bool true) ∧ Below w.heap.size w w' := by
  by_cases hn : 3000 < n
  · go_enter Try.func5, Try.ntmps5
    go_wp2_with (go_at_call 13; refine (awake03 _).mono ?_; rintro e w1 ⟨rfl, hb1⟩)
    go_ret
    exact ⟨rfl, hb1⟩
  by_cases hn1 : n < 1
  · go_enter Try.func5, Try.ntmps5
    go_wp2_with fail
    refine (awake03 _).mono ?_
    rintro e w1 ⟨rfl, hb1⟩
    go_wp2_with fail
    go_loop [7, 8, 9] (fun s i _ => i = .int .i64 0 ∧ s = .int .u32 a) (fun _ i _ => 0)
    case atStart => exact ⟨rfl, rfl⟩
    case round =>
      obtain ⟨rfl, rfl⟩ := hrel
      go_wp2_with (go_at_call 18; refine (join_none _ _ _ _ hn1).mono ?_; rintro e w' ⟨rfl, rfl⟩)
      go_ret
      exact ⟨rfl, hb1⟩
  · obtain ⟨k, rfl⟩ := Int.eq_ofNat_of_zero_le (show 0 ≤ n by omega)
    have hj : Crc.join a b k < 4294967296 := by
      unfold Crc.join; rw [if_neg (by omega)]; exact Crc.xor_lt (Crc.steps_lt _ ha) hb
    go_enter Try.func5, Try.ntmps5
    go_wp2_with fail
    refine (awake03 _).mono ?_
    rintro e w1 ⟨rfl, hb1⟩
    go_wp2_with fail
    go_loop [7, 8, 9] (fun s i _ => ∃ m : Nat, m ≤ k ∧ i = .int .i64 m ∧ s = .int .u32 (Crc.steps (8 * m) a)) (fun _ i _ => k - (intOf i).toNat)
    case atStart => exact ⟨0, by omega, rfl, rfl⟩
    case round =>
      obtain ⟨m, hm, rfl, rfl⟩ := hrel
      by_cases hlt : m < k
      · have hsl := Crc.steps_lt (8 * m) ha
        have Ha := Lib.hid (Crc.steps_add (8 * m) 8 a)
        generalize Crc.steps (8 * m) a = c at *
        go_wp2_with fail
        go_loop [7, 9] (fun s i => ∃ j : Nat, j ≤ 8 ∧ i = .int .i64 j ∧ s = .int .u32 (Crc.steps j c)) (fun _ i => 8 - (intOf i).toNat)
        case atStart => exact ⟨0, by omega, rfl, rfl⟩
        case round =>
          obtain ⟨j, hj, rfl, rfl⟩ := hrel
          have hjl := Crc.steps_lt j hsl
          by_cases hlt2 : j < 8
          · go_wp2_with (go_at_call 19; refine (rstep_any _ _ hjl).mono ?_; rintro e w' ⟨rfl, rfl⟩)
            go_round
            case rel => exact ⟨j + 1, by omega, by go_num, congrArg (fun n : Nat => Value.int .u32 (n : Int)) (Crc.steps_add j 1 c).symm⟩
            case measure => simp [intOf]; omega
          · obtain rfl : j = 8 := by omega
            go_wp2_with fail
            go_round
            case rel => exact ⟨m + 1, by omega, by go_num, congrArg (fun n : Nat => Value.int .u32 (n : Int)) (by rw [show 8 * (m + 1) = 8 * m + 8 by omega]; exact Ha.out.symm)⟩
            case measure => simp [intOf]; omega
      · obtain rfl : m = k := by omega
        have hsl := Crc.steps_lt (8 * m) ha
        have e1 := u32_xor_nat (Crc.steps (8 * m) a) b hsl hb
        have e2 : Hid (Crc.join a b m = Crc.steps (8 * m) a ^^^ b) := by unfold Hid Crc.join; rw [if_neg (by omega)]
        generalize Crc.steps (8 * m) a = c at *
        go_wp2_with fail
        refine (join_any a b m _ ha hb (by omega) (by omega)).mono ?_
        rintro e w2 ⟨rfl, hb2⟩
        rw [e2.out]
        go_wp2_with fail
        go_ret
        exact ⟨rfl, nt hb1 hb2⟩

/-! ### CrcLong -/
set_option maxHeartbeats 400000 in
theorem crcLong_law (a b c : Nat) (m n : Int) (w : World) (ha : a < 4294967296) (hb : b < 4294967296) (hc : c < 4294967296) :
    Calls Try.prog 6 #[.int .u32 a, .int .u32 b, .int .u32 c, .int .i64 m, .int .i64 n] w fun e w' => e = .returned (.bool true) ∧ Below w.heap.size w w' := by
  have hjl : ∀ a b k : Nat, a < 4294967296 → b < 4294967296 → Crc.join a b k < 4294967296 := fun a b k ha hb => by
    unfold Crc.join; split
    · exact ha
    · exact Crc.xor_lt (Crc.steps_lt _ ha) hb
  by_cases h1 : m < 1
  · go_enter Try.func6, Try.ntmps6
    go_wp2_with fail
    refine (awake03 _).mono ?_
    rintro e w1 ⟨rfl, hb1⟩
    go_wp2_with fail
    refine (join_none _ _ _ _ (by omega)).mono ?_
    rintro e w' ⟨rfl, rfl⟩
    go_wp2_with fail
    go_ret
    exact ⟨rfl, hb1⟩
  by_cases h2 : n < 1
  · go_enter Try.func6, Try.ntmps6
    go_wp2_with fail
    refine (awake03 _).mono ?_
    rintro e w1 ⟨rfl, hb1⟩
    go_wp2_with fail
    refine (join_none _ _ _ _ (by omega)).mono ?_
    rintro e w' ⟨rfl, rfl⟩
    go_wp2_with fail
    go_ret
    exact ⟨rfl, hb1⟩
  by_cases h3 : 2305843009213693952 < m
  · go_enter Try.func6, Try.ntmps6
    go_wp2_with fail
    refine (awake03 _).mono ?_
    rintro e w1 ⟨rfl, hb1⟩
    go_wp2_with fail
    refine (join_none _ _ _ _ (by omega)).mono ?_
    rintro e w' ⟨rfl, rfl⟩
    go_wp2_with fail
    go_ret
    exact ⟨rfl, hb1⟩
  by_cases h4 : 2305843009213693952 < n
  · go_enter Try.func6, Try.ntmps6
    go_wp2_with fail
    refine (awake03 _).mono ?_
    rintro e w1 ⟨rfl, hb1⟩
    go_wp2_with fail
    refine (join_none _ _ _ _ (by omega)).mono ?_
    rintro e w' ⟨rfl, rfl⟩
    go_wp2_with fail
    go_ret
    exact ⟨rfl, hb1⟩
  obtain ⟨j, rfl⟩ := Int.eq_ofNat_of_zero_le (show 0 ≤ m by omega)
  obtain ⟨k, rfl⟩ := Int.eq_ofNat_of_zero_le (show 0 ≤ n by omega)
  have he := Lib.hid (Crc.join_assoc a b c (m := j) (n := k) (by omega) (by omega))
  go_enter Try.func6, Try.ntmps6
  go_wp2_with fail
  refine (awake03 _).mono ?_
  rintro e w1 ⟨rfl, hb1⟩
  go_wp2_with fail
  refine (join_any a b j _ ha hb (by omega) (by omega)).mono ?_
  rintro e w2 ⟨rfl, hb2⟩
  go_wp2_with fail
  refine (join_any _ c k _ (hjl _ _ _ ha hb) hc (by omega) (by omega)).mono ?_
  rintro e w3 ⟨rfl, hb3⟩
  go_wp2_with fail
  refine (join_any b c k _ hb hc (by omega) (by omega)).mono ?_
  rintro e w4 ⟨rfl, hb4⟩
  go_wp2_with fail
  rw [show ((j : Int) + (k : Int)) = ((j + k : Nat) : Int) by omega]
  refine (join_any a _ (j + k) _ ha (hjl _ _ _ hb hc) (by omega) (by omega)).mono ?_
  rintro e w5 ⟨rfl, hb5⟩
  rw [he.out]
  go_wp2_with fail
  go_ret
  exact ⟨rfl, nt (nt (nt (nt hb1 hb2) hb3) hb4) hb5⟩

/-! ### CrcTells -/
set_option maxHeartbeats 400000 in
theorem crcTells_law (A : Option Addr) (cap : Nat) (l : List UInt8) (at_ : Int) (bt : Nat) (w : World) (hA : Bytes w w.heap.size A l) (hl : l.length ≤ 9223372036854775807) (hb : bt < 256) :
    Calls Try.prog 7 #[.slice A l.length cap, .int .i64 at_, .int .u8 bt] w fun e w' => e = .returned (.bool true) ∧ Below w.heap.size w w' := by
  by_cases h1 : 3000 < l.length
  · go_enter Try.func7, Try.ntmps7
    go_wp2_with fail
    refine (awake03 _).mono ?_
    rintro e w1 ⟨rfl, hb1⟩
    go_wp2_with fail
    go_ret
    exact ⟨rfl, hb1⟩
  by_cases h2 : at_ < 0
  · go_enter Try.func7, Try.ntmps7
    go_wp2_with fail
    refine (awake03 _).mono ?_
    rintro e w1 ⟨rfl, hb1⟩
    go_wp2_with fail
    go_ret
    exact ⟨rfl, hb1⟩
  obtain ⟨k, rfl⟩ := Int.eq_ofNat_of_zero_le (show 0 ≤ at_ by omega)
  by_cases h3 : l.length ≤ k
  · go_enter Try.func7, Try.ntmps7
    go_wp2_with fail
    refine (awake03 _).mono ?_
    rintro e w1 ⟨rfl, hb1⟩
    go_wp2_with fail
    go_ret
    exact ⟨rfl, hb1⟩
  by_cases h4 : bt = 0
  · subst h4
    go_enter Try.func7, Try.ntmps7
    go_wp2_with fail
    refine (awake03 _).mono ?_
    rintro e w1 ⟨rfl, hb1⟩
    go_wp2_with fail
    go_ret
    exact ⟨rfl, hb1⟩
  have h4' : ((bt : Int) == 0) = false := by rw [beq_eq_false_iff_ne]; omega
  go_enter Try.func7, Try.ntmps7
  go_wp2_with fail
  refine (awake03 _).mono ?_
  rintro e w1 ⟨rfl, hb1⟩
  have hA1 := Lib.hid (hA.below (na hb1 (.cells #[] 5)))
  have hn : ([] : List UInt8).length + l.length ≤ 140737488355328 := by simp; omega
  have hp : 0 < l.length := by omega
  obtain ⟨x, hx⟩ : ∃ x, l[k]? = some x := ⟨l[k], List.getElem?_eq_getElem (by omega)⟩
  have Hx := Lib.hid hx
  clear hx
  have hxl := x.toNat_lt
  have ex := u8_xor_nat x.toNat bt (by omega) hb
  have hyl : x.toNat ^^^ bt < 256 := Nat.xor_lt_two_pow (n := 8) (by omega) (by omega)
  obtain ⟨y, hy⟩ : ∃ y : UInt8, y.toNat = x.toNat ^^^ bt := ⟨UInt8.ofNat (x.toNat ^^^ bt), by rw [UInt8.toNat_ofNat']; omega⟩
  have hne : x.toNat ^^^ bt ≠ x.toNat := fun e => h4 (by
    have : x.toNat ^^^ (x.toNat ^^^ bt) = x.toNat ^^^ x.toNat := by rw [e]
    rwa [← Nat.xor_assoc, Nat.xor_self, Nat.zero_xor] at this)
  have Hy := Lib.hid hy
  have Hne := Lib.hid hne
  clear hy hne
  go_wp2_with (at_builtin; refine wpList_append_bytes_at rfl (.tmp 27) (.tmp 28) rfl w1.heap.size (.slice (some ⟨w1.heap.size, 0, none⟩) 0 0) [] rfl (Own.empty _ _ (Nat.le_refl _)) w.heap.size A cap l rfl hA1.out hn (na (nr w1) _).size hp ?_; intro g c2 w2 hown hg hat; rw [List.nil_append] at hown ⊢; clear hA1 hn; have hcl := hown.cell Hx.out; have hfr := hown.free k; have Hat := Lib.hid hat; clear hat)
  have hb2 : Below w.heap.size w w2 := (na hb1 _).grown hg (na hb1 _).size (fun q e => by simp [Value.ownBlock] at e; have := hb1.size; omega)
  have hgw : w.heap.size ≤ g := Nat.le_trans hb1.size hown.lt.1
  have hb3 : Below w.heap.size w (w2.setCell ⟨g, k, none⟩ (.int .u8 ((x.toNat ^^^ bt : Nat) : Int))) := hb2.setCell hgw _
  have hown3 := hown.set_ k y
  rw [show B8 y = .int .u8 ((x.toNat ^^^ bt : Nat) : Int) from congrArg (fun n : Nat => Value.int .u8 (n : Int)) Hy.out, List.length_set] at hown3
  generalize w2.setCell ⟨g, k, none⟩ (.int .u8 ((x.toNat ^^^ bt : Nat) : Int)) = w3 at *
  have hof := of_any (some ⟨g, 0, none⟩) c2 (l.set k y) w3 hown3.bytes.1 (by rw [List.length_set]; exact hl)
  rw [List.length_set] at hof
  refine hof.mono ?_
  clear hof
  rintro e w4 ⟨rfl, hb4⟩
  have hb5 := hb3.trans (hb4.mono hb3.size)
  go_wp2_with fail
  refine (of_any _ _ l _ ((hA.below hb5).more hb5.size) hl).mono ?_
  rintro e w6 ⟨rfl, hb6⟩
  have hfin : ((Crc.more 0 (nums (l.set k y)) : Int) != (Crc.more 0 (nums l) : Int)) = true := by
    rw [bne_iff_ne]
    intro e
    have hk := (List.getElem?_eq_some_iff.1 Hx.out)
    have e1 : l = l.take k ++ x :: l.drop (k + 1) := by
      obtain ⟨h1, h2⟩ := hk
      rw [← h2, ← List.drop_eq_getElem_cons h1, List.take_append_drop]
    have e2 : l.set k y = l.take k ++ y :: l.drop (k + 1) := by
      rw [List.set_eq_take_append_cons_drop, if_pos hk.1]
    have e3 : Crc.more 0 (nums (l.take k) ++ (x.toNat ^^^ bt) :: nums (l.drop (k + 1))) = Crc.more 0 (nums (l.take k) ++ x.toNat :: nums (l.drop (k + 1))) := by
      have e4 : nums (l.set k y) = nums (l.take k) ++ (x.toNat ^^^ bt) :: nums (l.drop (k + 1)) := by
        rw [e2, nums_append]
        show _ ++ y.toNat :: _ = _
        rw [Hy.out]; rfl
      have e5 : nums l = nums (l.take k) ++ x.toNat :: nums (l.drop (k + 1)) := by
        conv => lhs; rw [e1, nums_append]
        rfl
      rw [← e4, ← e5]
      omega
    exact Crc.more_tells 0 _ _ hyl (by omega) Hne.out e3
  go_wp2_with fail
  go_ret
  exact ⟨rfl, nt hb5 hb6⟩
end Go.Proofs.Ytlepallialmceaa
