/- The walks of the document's Right and Same of messages. -/
import Derived.Test.YtegpoghgddjmaaaNet
namespace Go.Proofs.Ytegpoghgddjmaaa
open Go.RowKit
set_option maxRecDepth 100000

set_option maxHeartbeats 1000000 in
theorem rright_any (a : Bool) (h : Int) (A : Option Addr) (n c : Nat) (w : World) (hn : n ≤ 9223372036854775807) : Calls Try.prog 44 #[MV a h A n c] w fun e w' => e = .returned (.bool (rightS a h n)) ∧ Below w.heap.size w w' := by
  by_cases h0 : h < 0
  · have hr : rightS a h n = false := by simp [rightS, show ¬ 0 ≤ h by omega]
    rw [hr]
    clear hr
    go_enter Try.func44, Try.ntmps44
    go_wp2
    go_ret
    exact ⟨rfl, na (nr w) _⟩
  have h0' : (0 : Int) ≤ h := by omega
  by_cases h1 : 4503599627370497 < h
  · have hr : rightS a h n = false := by simp [rightS, show ¬ h ≤ 4503599627370497 by omega]
    rw [hr]
    clear hr
    go_enter Try.func44, Try.ntmps44
    go_wp2
    go_ret
    exact ⟨rfl, na (nr w) _⟩
  have h1' : h ≤ 4503599627370497 := by omega
  by_cases h2 : 65536 < n
  · have hr : rightS a h n = false := by simp [rightS, show ¬ n ≤ 65536 by omega]
    rw [hr]
    clear hr
    have h2' : (65536 : Int) < (n : Int) := by omega
    go_enter Try.func44, Try.ntmps44
    go_wp2
    go_ret
    exact ⟨rfl, na (nr w) _⟩
  have h2' : (n : Int) ≤ 65536 := by omega
  cases a
  · have hr : rightS false h n = (h == 0) := by
      rw [Bool.eq_iff_iff, beq_iff_eq]
      simp [rightS]
      omega
    rw [hr]
    clear hr
    go_enter Try.func44, Try.ntmps44
    go_wp2
    go_ret
    exact ⟨rfl, na (nr w) _⟩
  · have hr : rightS true h n = ((n : Int) == 0) := by
      rw [Bool.eq_iff_iff, beq_iff_eq]
      simp [rightS]
      omega
    rw [hr]
    clear hr
    go_enter Try.func44, Try.ntmps44
    go_wp2
    go_ret
    exact ⟨rfl, na (nr w) _⟩

/-- Are two messages alike? -/
def sameS (a a' : Bool) (h h' : Int) (l l' : List UInt8) : Bool := decide (a = a') && (decide (h = h') && decide (l = l'))
set_option maxHeartbeats 1000000 in
theorem rsame_any (a a' : Bool) (h h' : Int) (A A' : Option Addr) (n c n' c' : Nat) (l l' : List UInt8) (w : World) (hA : Bytes w w.heap.size A l) (hn : l.length = n) (hA' : Bytes w w.heap.size A' l') (hn' : l'.length = n') :
    Calls Try.prog 45 #[MV a h A n c, MV a' h' A' n' c'] w fun e w' => e = .returned (.bool (sameS a a' h h' l l')) ∧ Below w.heap.size w w' := by
  have hb := na (na (nr w) (.cells #[.bool a, .int .i64 h, .slice A n c] 54)) (.cells #[.bool a', .int .i64 h', .slice A' n' c'] 54)
  have hm1 := (MC.made w a h (.slice A n c) 54).keep ((na (nr (w.alloc (.cells #[.bool a, .int .i64 h, .slice A n c] 54))) (.cells #[.bool a', .int .i64 h', .slice A' n' c'] 54)).block w.heap.size (by simp))
  have hm2 := MC.made (w.alloc (.cells #[.bool a, .int .i64 h, .slice A n c] 54)) a' h' (.slice A' n' c') 54
  go_enter Try.func45, Try.ntmps45
  have r1 := run_str _ _ A n c l (hA.below hb) hn
  have r2 := run_str _ _ A' n' c' l' (hA'.below hb) hn'
  by_cases ha : a = a'
  · subst ha
    by_cases hh : h = h'
    · subst hh
      have hs : sameS a a h h l l' = (l == l') := by
        rw [Bool.eq_iff_iff, beq_iff_eq]
        simp [sameS]
      rw [hs]
      clear hs
      go_wp2_with fail
      go_ret
      exact ⟨rfl, hb⟩
    · have hs : sameS a a h h' l l' = false := by simp [sameS, hh]
      rw [hs]
      clear hs
      have hh' : (h == h') = false := by rw [beq_eq_false_iff_ne]; exact hh
      go_wp2_with fail
      go_ret
      exact ⟨rfl, hb⟩
  · have hs : sameS a a' h h' l l' = false := by simp [sameS, ha]
    rw [hs]
    clear hs
    have ha' : (a == a') = false := by rw [beq_eq_false_iff_ne]; exact ha
    go_wp2_with fail
    go_ret
    exact ⟨rfl, hb⟩
end Go.Proofs.Ytegpoghgddjmaaa
