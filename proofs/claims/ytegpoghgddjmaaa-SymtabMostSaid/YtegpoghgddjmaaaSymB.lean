/- Texts: how many bytes are shared, in the program and in the document. -/
import Derived.Test.YtegpoghgddjmaaaSymA
namespace Go.Proofs.Ytegpoghgddjmaaa
open Go.RowKit
set_option maxRecDepth 100000

/-- How many bytes the text at a place shares with the one ahead. -/
def sharedS (i : Nat) (a s : List UInt8) : Nat := if i % 8 = 0 then 0 else alikeS a s
set_option maxHeartbeats 2000000 in
theorem shared_any (i : Nat) (a s : List UInt8) (w : World) (hi : i ≤ 9223372036854775807) (ha : a.length ≤ 9223372036854775807) (hb : s.length ≤ 9223372036854775807) :
    Calls Try.prog 88 #[.int .i64 i, S8 a, S8 s] w fun e w' => e = .returned (.int .i64 (sharedS i a s : Nat)) ∧ Below w.heap.size w w' := by
  by_cases h8 : i % 8 = 0
  · have h8i : (i : Int).tmod 8 = 0 := by rw [Int.tmod_eq_emod_of_nonneg (by omega)]; omega
    have hz := Lib.hid (show sharedS i a s = 0 from if_pos h8)
    go_enter Try.func88, Try.ntmps88
    go_wp2_with fail
    go_ret
    exact ⟨by rw [hz.out]; rfl, nr w⟩
  · have h8i : (i : Int).tmod 8 ≠ 0 := by rw [Int.tmod_eq_emod_of_nonneg (by omega)]; omega
    have h8b : ((i : Int).tmod 8 == 0) = false := by rw [beq_eq_false_iff_ne]; exact h8i
    have h8c : ((i : Int) % 8 == 0) = false := by rw [beq_eq_false_iff_ne]; omega
    have hz := Lib.hid (show sharedS i a s = alikeS a s from if_neg h8)
    go_enter Try.func88, Try.ntmps88
    go_wp2_with fail
    refine (alike_any a s w ha hb).mono ?_
    rintro e w1 ⟨rfl, hb1⟩
    go_wp2_with fail
    go_ret
    exact ⟨by rw [hz.out]; rfl, hb1⟩
set_option maxHeartbeats 4000000 in
theorem rshared_any (i : Nat) (a s : List UInt8) (w : World) (hi : i ≤ 9223372036854775807) (ha : a.length ≤ 9223372036854775807) (_hb : s.length ≤ 9223372036854775807) :
    Calls Try.prog 95 #[.int .i64 i, S8 a, S8 s] w fun e w' => e = .returned (.int .i64 (sharedS i a s : Nat)) ∧ Below w.heap.size w w' := by
  by_cases h8 : i % 8 = 0
  · have h8i : (i : Int).tmod 8 = 0 := by rw [Int.tmod_eq_emod_of_nonneg (by omega)]; omega
    have hz := Lib.hid (show sharedS i a s = 0 from if_pos h8)
    go_enter Try.func95, Try.ntmps95
    go_wp2_with fail
    go_ret
    exact ⟨by rw [hz.out]; rfl, nr w⟩
  · have h8b : ((i : Int).tmod 8 == 0) = false := by rw [beq_eq_false_iff_ne, Int.tmod_eq_emod_of_nonneg (by omega)]; omega
    have h8c : ((i : Int) % 8 == 0) = false := by rw [beq_eq_false_iff_ne]; omega
    have hsh := Lib.hid (show sharedS i a s = alikeS a s from if_neg h8)
    go_enter Try.func95, Try.ntmps95
    go_wp2_with fail
    go_loopw [7] (fun ix wr => ∃ k : Nat, ix = .int .i64 k ∧ k ≤ alikeS a s ∧ Hid (Below w.heap.size w wr)) (fun ix _ => a.length - (intOf ix).toNat)
    case atStart => exact ⟨0, rfl, Nat.zero_le _, nr w⟩
    case round =>
      obtain ⟨k, rfl, hk, hW⟩ := hrel
      have hle := alikeS_le a s
      by_cases h1 : k < a.length
      · have h1i : (k : Int) < (a.length : Int) := by omega
        by_cases h2 : k < s.length
        · have h2i : (k : Int) < (s.length : Int) := by omega
          obtain ⟨x, hx⟩ : ∃ x, a[k]? = some x := ⟨_, List.getElem?_eq_getElem h1⟩
          obtain ⟨y, hy⟩ : ∃ y, s[k]? = some y := ⟨_, List.getElem?_eq_getElem h2⟩
          have gx := str_get h1 hx
          have gy := str_get h2 hy
          have HX := Lib.hid (And.intro hx hy)
          clear hx hy
          go_upto_region 4 with fail
          by_cases e : x = y
          · subst e
            have hk1 := Lib.hid (alikeS_more a s k x hk HX.out.1 HX.out.2)
            clear hk
            go_quiet (fail)
            go_wp2_with fail
            exact ⟨⟨k + 1, by go_num, hk1.out, ndN hW.out _⟩, by simp [intOf]; omega⟩
          · have hxy : ((x.toNat : Int) == (y.toNat : Int)) = false := by
              rw [beq_eq_false_iff_ne]
              intro h
              exact e (UInt8.toNat_inj.1 (by omega))
            have hz := Lib.hid (alikeS_stop a s k hk (.inr (.inr ⟨x, y, HX.out.1, HX.out.2, e⟩)))
            go_quiet (fail)
            go_wp2_with fail
            go_ret
            exact ⟨by rw [hsh.out, hz.out]; rfl, ndN hW.out _⟩
        · have h2i : (s.length : Int) ≤ (k : Int) := by omega
          have hz := Lib.hid (alikeS_stop a s k hk (.inr (.inl h2)))
          go_upto_region 4 with fail
          go_quiet (fail)
          go_wp2_with fail
          go_ret
          exact ⟨by rw [hsh.out, hz.out]; rfl, ndN hW.out _⟩
      · have h1i : (a.length : Int) ≤ (k : Int) := by omega
        have hz := Lib.hid (alikeS_stop a s k hk (.inl h1))
        go_upto_region 4 with fail
        go_quiet (fail)
        go_wp2_with fail
        go_ret
        exact ⟨by rw [hsh.out, hz.out]; rfl, ndN hW.out _⟩
end Go.Proofs.Ytegpoghgddjmaaa
