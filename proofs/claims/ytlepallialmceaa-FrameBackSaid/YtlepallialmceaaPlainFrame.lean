/- Plain laws of frames: what a frame begins with; a frame of which a byte is turned. No program is run here. -/
import Derived.Test.YtlepallialmceaaScan
namespace Go.Proofs.Ytlepallialmceaa
open Go.RowKit

theorem num4_four (n : Nat) (h : n < 4294967296) (r : List UInt8) : num4 (four n ++ r) = n := by
  show (UInt8.ofNat n).toNat + 256 * (UInt8.ofNat (n / 256)).toNat + 65536 * (UInt8.ofNat (n / 65536)).toNat + 16777216 * (UInt8.ofNat (n / 16777216)).toNat = n
  rw [UInt8.toNat_ofNat', UInt8.toNat_ofNat', UInt8.toNat_ofNat', UInt8.toNat_ofNat']
  omega
/-- The sum of a frame. -/
def fsum (p : List UInt8) : Nat := Crc.more 0 (nums (((165 : UInt8) :: four p.length) ++ p))
theorem fsum_lt (p : List UInt8) : fsum p < 4294967296 := Crc.more_lt (by decide) (nums_lt _)
theorem wrap_eq (p : List UInt8) : wrap p = (165 : UInt8) :: (four p.length ++ (four (fsum p) ++ p)) := by
  unfold wrap fsum
  simp
/-- What bytes begin with that begin with a frame's head: by the parts. -/
theorem first_parts (n s : Nat) (q : List UInt8) (hn : n ≤ 65536) (hs : s < 4294967296) (hq : n ≤ q.length) :
    first ((165 : UInt8) :: (four n ++ (four s ++ q))) = if Crc.more 0 (nums (((165 : UInt8) :: four n) ++ q.take n)) ≠ s then ([], 0, 5) else (q.take n, 9 + n, 0) := by
  have e1 : ((165 : UInt8) :: (four n ++ (four s ++ q))).drop 1 = four n ++ (four s ++ q) := rfl
  have e5 : ((165 : UInt8) :: (four n ++ (four s ++ q))).drop 5 = four s ++ q := rfl
  have e9 : ((165 : UInt8) :: (four n ++ (four s ++ q))).drop 9 = q := rfl
  have t5 : ((165 : UInt8) :: (four n ++ (four s ++ q))).take 5 = (165 : UInt8) :: four n := rfl
  have hlen : ((165 : UInt8) :: (four n ++ (four s ++ q))).length = 9 + q.length := by simp [four]; omega
  unfold first
  rw [if_neg (by simp), if_neg (by simp), hlen, if_neg (by omega), e1, num4_four n (by omega), if_neg (by omega), if_neg (by omega), e5, e9, t5, num4_four s hs]
theorem first_wrap (p r : List UInt8) (hp : p.length ≤ 65536) : first (wrap p ++ r) = (p, 9 + p.length, 0) := by
  rw [wrap_eq]
  have e : ((165 : UInt8) :: (four p.length ++ (four (fsum p) ++ p))) ++ r = (165 : UInt8) :: (four p.length ++ (four (fsum p) ++ (p ++ r))) := by simp
  rw [e, first_parts _ _ _ hp (fsum_lt p) (by simp), List.take_left]
  rw [if_neg (by unfold fsum; simp)]
end Go.Proofs.Ytlepallialmceaa
