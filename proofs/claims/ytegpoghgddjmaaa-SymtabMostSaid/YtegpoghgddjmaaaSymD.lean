/- Texts: which begin with another; how many stand below one. -/
import Derived.Test.YtegpoghgddjmaaaSymC
namespace Go.Proofs.Ytegpoghgddjmaaa
open Go.RowKit
set_option maxRecDepth 100000

theorem str_take (l : List UInt8) (k : Nat) : (({ data := l.toArray } : ByteArray).extract 0 k) = { data := (l.take k).toArray } := by
  rw [ByteArray.extract_mk]
  simp
def beginsS (s p : List UInt8) : Bool := decide (p.length ≤ s.length) && (s.take p.length == p)
set_option maxHeartbeats 2000000 in
theorem rbegins_any (s p : List UInt8) (w : World) :
    Calls Try.prog 70 #[S8 s, S8 p] w fun e w' => e = .returned (.bool (beginsS s p)) ∧ w' = w := by
  by_cases h : p.length ≤ s.length
  · have hi : (p.length : Int) ≤ (s.length : Int) := by omega
    have hb := Lib.hid (show beginsS s p = (s.take p.length == p) by unfold beginsS; rw [decide_eq_true h, Bool.true_and])
    have hx := str_take s p.length
    go_enter Try.func70, Try.ntmps70
    go_wp2_with fail
    go_ret
    exact ⟨by rw [hb.out]; rfl, rfl⟩
  · have hi : (s.length : Int) < (p.length : Int) := by omega
    have hb := Lib.hid (show beginsS s p = false by unfold beginsS; rw [decide_eq_false h, Bool.false_and])
    go_enter Try.func70, Try.ntmps70
    go_wp2_with fail
    go_ret
    exact ⟨by rw [hb.out]; rfl, rfl⟩
/-- How many texts stand below one. -/
def belowS (L : List (List UInt8)) (s : List UInt8) : Nat := L.countP (fun x => Op.bytesLess x s)
theorem belowS_snoc {L : List (List UInt8)} {k : Nat} {x s : List UInt8} (h : L[k]? = some x) : belowS (L.take (k + 1)) s = belowS (L.take k) s + (if Op.bytesLess x s = true then 1 else 0) := by
  unfold belowS
  rw [List.take_add_one, h, List.countP_append]
  show _ + List.countP _ [x] = _
  rw [List.countP_singleton]
theorem belowS_le (L : List (List UInt8)) (s : List UInt8) (k : Nat) : belowS (L.take k) s ≤ k := by
  unfold belowS
  exact Nat.le_trans (List.countP_le_length ..) (by rw [List.length_take]; omega)
set_option maxHeartbeats 2000000 in
theorem rbelow_any (A : Option Addr) (n cap : Nat) (L : List (List UInt8)) (s : List UInt8) (w : World) (hA : Strs w w.heap.size A L) (hn : L.length = n) (hl : n ≤ 1099511627776) :
    Calls Try.prog 67 #[.slice A n cap, S8 s] w fun e w' => e = .returned (.int .i64 (belowS L s : Nat)) ∧ w' = w := by
  have Hn := Lib.hid hn
  clear hn
  go_enter Try.func67, Try.ntmps67
  go_wp2_with fail
  go_loop [5, 6] (fun c i => ∃ k : Nat, k ≤ n ∧ i = .int .i64 k ∧ c = .int .i64 (belowS (L.take k) s : Nat)) (fun c i => n - (intOf i).toNat)
  case atStart => exact ⟨0, Nat.zero_le _, rfl, rfl⟩
  case round =>
    obtain ⟨k, hk, rfl, rfl⟩ := hrel
    by_cases hend : k = n
    · subst hend
      have hz := Lib.hid (show belowS (L.take k) s = belowS L s by rw [List.take_of_length_le (by rw [Hn.out]; omega)])
      rw [hz.out]
      go_wp2_with fail
      go_ret
      exact ⟨rfl, rfl⟩
    · have hki : (k : Int) < (n : Int) := by omega
      obtain ⟨b, off, x, rfl, _, hx, hc, _⟩ := hA.get (k := k) (by rw [Hn.out]; omega)
      have Hs := Lib.hid (belowS_snoc (s := s) hx)
      have hle := belowS_le L s k
      clear hx
      obtain ⟨C, hC⟩ : ∃ C, belowS (L.take k) s = C := ⟨_, rfl⟩
      rw [hC] at Hs hle ⊢
      clear hC
      cases hlx : Op.bytesLess x s with
      | true =>
        rw [hlx] at Hs
        have Hs := Lib.hid (show belowS (L.take (k + 1)) s = C + 1 from Hs.out)
        go_wp2_with fail
        go_round
        case rel => exact ⟨k + 1, by omega, by go_num, by rw [Hs.out]; go_num⟩
        case measure => simp [intOf]; omega
      | false =>
        rw [hlx] at Hs
        have Hs := Lib.hid (show belowS (L.take (k + 1)) s = C from Hs.out)
        go_wp2_with fail
        go_round
        case rel => exact ⟨k + 1, by omega, by go_num, by rw [Hs.out]⟩
        case measure => simp [intOf]; omega
end Go.Proofs.Ytegpoghgddjmaaa
