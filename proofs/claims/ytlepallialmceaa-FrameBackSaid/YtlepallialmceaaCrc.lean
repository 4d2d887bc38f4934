/- The walks of package crc: the table of four bits, the sum, the matrices, two sums joined. -/
import Derived.Test.YtlepallialmceaaMem
import Derived.Test.YtlepallialmceaaMathCrc
namespace Go.Proofs.Ytlepallialmceaa
open Go.RowKit

theorem setRow_alloc (w : World) (old new : Array Value) (t : TypeId) : (w.alloc (.cells old t)).setRow w.heap.size new = w.alloc (.cells new t) := by
  unfold World.setRow World.alloc
  congr 1
  apply Array.ext
  · simp
  · intro k h1 h2
    simp only [Array.getElem_modify]
    split
    · rename_i hk
      subst hk
      simp
    · rename_i hk
      simp at h1
      rw [Array.getElem_push_lt (by omega), Array.getElem_push_lt (by omega)]

theorem setRow_alloc2 (w : World) (a : Obj) (old new : Array Value) (t : TypeId) : ((w.alloc a).alloc (.cells old t)).setRow (w.heap.size + 1) new = (w.alloc a).alloc (.cells new t) := by
  have := setRow_alloc (w.alloc a) old new t
  rwa [World.size_alloc] at this

def U32v (n : Nat) : Value := .int .u32 (n : Int)
/-- The table as it stands behind k rounds. -/
def tabTo (k : Nat) : Array Value := ((List.range 16).map fun j => if j < k then U32v (Crc.nib j) else U32v 0).toArray

theorem tabTo_zero : tabTo 0 = #[.int .u32 0, .int .u32 0, .int .u32 0, .int .u32 0, .int .u32 0, .int .u32 0, .int .u32 0, .int .u32 0, .int .u32 0, .int .u32 0, .int .u32 0, .int .u32 0, .int .u32 0, .int .u32 0, .int .u32 0, .int .u32 0] := by rfl
theorem tabTo_succ (k : Nat) : (tabTo k).setIfInBounds k (U32v (Crc.nib k)) = tabTo (k + 1) := by
  apply Array.ext
  · simp [tabTo]
  · intro i h1 h2
    have hi : i < 16 := by simpa [tabTo] using h2
    rw [Array.getElem_setIfInBounds (by simpa [tabTo] using hi)]
    by_cases e : k = i
    · subst e; simp [tabTo]
    · simp only [if_neg e]
      simp only [tabTo, List.getElem_toArray, List.getElem_map, List.getElem_range]
      by_cases hk : i < k
      · rw [if_pos hk, if_pos (by omega)]
      · rw [if_neg hk, if_neg (by omega)]
theorem tabTo_at (k : Nat) (h : k < 16) : (tabTo k)[k]? = some (.int .u32 0) := by
  simp [tabTo, h, U32v]
theorem step_walk (c : Nat) (h : c < 4294967296) :
    bits .xor .u32 ((c : Int) / 2) (bits .and .u32 2197175160 (-bits .and .u32 (c : Int) 1 % 4294967296)) = (Crc.step c : Int) := by
  have h1 : bits .and .u32 (c : Int) 1 = ((c % 2 : Nat) : Int) := by
    rw [show (1 : Int) = ((1 : Nat) : Int) from rfl, u32_and_nat c 1 h (by decide), nat_mask1]
  have hd : ((c : Int) / 2) = ((c / 2 : Nat) : Int) := by omega
  rw [h1, hd]
  unfold Crc.step
  by_cases hc : c % 2 = 1
  · rw [if_pos hc, hc]
    have e : (-((1 : Nat) : Int) % 4294967296) = ((4294967295 : Nat) : Int) := by decide
    have e2 : bits .and .u32 2197175160 ((4294967295 : Nat) : Int) = ((2197175160 : Nat) : Int) := by decide +kernel
    rw [e, e2, u32_xor_nat _ _ (by omega) (by decide)]
  · rw [if_neg hc, show c % 2 = 0 by omega]
    have e : (-((0 : Nat) : Int) % 4294967296) = ((0 : Nat) : Int) := by decide
    have e2 : bits .and .u32 2197175160 ((0 : Nat) : Int) = ((0 : Nat) : Int) := by decide +kernel
    rw [e, e2, u32_xor_nat _ _ (by omega) (by decide), Nat.xor_zero]

set_option maxHeartbeats 400000 in
theorem nibbles_any (w : World) :
    Calls Try.prog 30 #[] w fun e w' => e = .returned (.agg (tabTo 16)) ∧ w' = w.alloc (.cells (tabTo 16) 57) := by
  go_enter Try.func30, Try.ntmps30
  go_wp2
  rw [← tabTo_zero]
  go_loopw [3] (fun i wr => ∃ k : Nat, k ≤ 16 ∧ i = .int .i64 k ∧ wr = w.alloc (.cells (tabTo k) 57)) (fun i _ => 16 - (intOf i).toNat)
  case atStart => exact ⟨0, by omega, rfl, rfl⟩
  case round =>
    obtain ⟨k, hk, rfl, rfl⟩ := hrel
    by_cases hlt : k < 16
    · have hlt' := hlt
      go_wp2
      go_loop [2, 8] (fun c j => ∃ m : Nat, m ≤ 4 ∧ j = .int .i64 m ∧ c = .int .u32 (Crc.steps m k)) (fun _ j => 4 - (intOf j).toNat)
      case atStart => exact ⟨0, by omega, rfl, rfl⟩
      case round =>
        obtain ⟨m, hm, rfl, rfl⟩ := hrel
        by_cases hlt : m < 4
        · go_wp2
          go_round
          case rel => exact ⟨m + 1, by omega, by go_num, congrArg (Value.int .u32) ((step_walk _ (Crc.steps_lt m (by omega))).trans (congrArg _ (Crc.steps_add m 1 k).symm))⟩
          case measure => simp [intOf]; omega
        · obtain rfl : m = 4 := by omega
          have hat := tabTo_at k (by assumption)
          go_wp2
          go_roundw
          case rel => exact ⟨k + 1, by omega, by go_num, congrArg (fun c => w.alloc (.cells c 57)) (tabTo_succ k)⟩
          case measure => simp [intOf]; omega
    · obtain rfl : k = 16 := by omega
      have hb := Lib.hid (heap_alloc_new w (.cells (tabTo 16) 57))
      go_wp2_with (first
        | (refine wpList_load_row rfl 57 (.tmp 0) rfl w.heap.size rfl 57 _ _ _ hb.out Try.underlying57 rfl (by kernel_rfl) ?_)
        | (refine wpList_store_row rfl 57 (.tmp 0) (.tmp 22) rfl w.heap.size (tabTo 16) rfl rfl 57 _ hb.out (by kernel_rfl) rfl (by kernel_rfl) ?_; rw [setRow_alloc]))
      exact bodyPost_ret (results_cell_row (p := 0) (ty := 57) rfl _ _ w.heap.size 57 (tabTo 16) _ _ rfl hb.out Try.underlying57 rfl (by kernel_rfl)) rfl ⟨rfl, rfl⟩

/-- A list of bytes as numbers. -/
def nums (l : List UInt8) : List Nat := l.map (·.toNat)
theorem tab_get (i : Nat) (h : i < 16) : (tabTo 16)[i]? = some (.int .u32 (Crc.nib i : Int)) := by
  simp [tabTo, h, U32v]

theorem flip_walk (s : Nat) (h : s < 4294967296) : bits .xor .u32 IntKind.u32.max (s : Int) = (Crc.flip s : Int) := by
  rw [show IntKind.u32.max = ((4294967295 : Nat) : Int) by decide, u32_xor_nat _ _ (by decide) h, Nat.xor_comm]; rfl
theorem and15 (a : Nat) (h : a < 4294967296) : bits .and .u32 (a : Int) 15 = ((a % 16 : Nat) : Int) := by
  rw [show (15 : Int) = ((15 : Nat) : Int) from rfl, u32_and_nat a 15 h (by decide), nat_mask4]
theorem nib_walk (a : Nat) (h : a < 4294967296) : bits .xor .u32 ((a : Int) / 16) (Crc.nib (a % 16) : Int) = (Crc.steps 4 a : Int) := by
  have hd : ((a : Int) / 16) = ((a / 16 : Nat) : Int) := by omega
  rw [hd, u32_xor_nat _ (Crc.nib (a % 16)) (by omega) (Crc.steps_lt 4 (by omega)), Crc.nibble]
theorem nums_length (l : List UInt8) : (nums l).length = l.length := List.length_map ..
theorem nums_lt (l : List UInt8) : ∀ c ∈ nums l, c < 256 := by
  intro c hc
  obtain ⟨x, _, rfl⟩ := List.mem_map.1 hc
  exact x.toNat_lt
theorem nums_append (a b : List UInt8) : nums (a ++ b) = nums a ++ nums b := List.map_append ..
theorem run_take_succ (s : Nat) (l : List UInt8) (k : Nat) (x : UInt8) (h : l[k]? = some x) : Crc.run s (nums (l.take (k + 1))) = Crc.byte (Crc.run s (nums (l.take k))) x.toNat := by
  rw [List.take_add_one, h, Option.toList_some, nums_append, Crc.run_append]; rfl

set_option maxHeartbeats 400000 in
theorem more_any (sum : Nat) (A : Option Addr) (cap : Nat) (l : List UInt8) (w : World) (hs : sum < 4294967296) (hA : Bytes w w.heap.size A l) (hl : l.length ≤ 9223372036854775807) :
    Calls Try.prog 16 #[.int .u32 sum, .slice A l.length cap] w fun e w' => e = .returned (.int .u32 (Crc.more sum (nums l))) ∧ Below w.heap.size w w' := by
  have e0 := flip_walk sum hs
  have hf := Crc.flip_lt hs
  go_enter Try.func16, Try.ntmps16
  go_wp2_with (first
    | (go_at_call 30; refine (nibbles_any _).mono ?_; rintro e w' ⟨rfl, rfl⟩)
    | (refine wpList_store_row rfl 57 (.tmp 5) (.tmp 8) rfl (w.heap.size + 1) (tabTo 16) rfl rfl 57 _ (heap_alloc2_new _ _ _) (by kernel_rfl) rfl (by kernel_rfl) ?_; rw [setRow_alloc2]))
  clear e0
  go_loop [0, 13] (fun s i => ∃ k : Nat, k ≤ l.length ∧ i = .int .i64 k ∧ s = .int .u32 (Crc.run (Crc.flip sum) (nums (l.take k)))) (fun _ i => l.length - (intOf i).toNat)
  case atStart => exact ⟨0, by omega, rfl, rfl⟩
  case round =>
    obtain ⟨k, hk, rfl, rfl⟩ := hrel
    have hrl : Crc.run (Crc.flip sum) (nums (l.take k)) < 4294967296 := Crc.run_lt _ hf (nums_lt _)
    by_cases hlt : k < l.length
    · obtain ⟨b, off, x, rfl, hbB, hx, hc⟩ := ((hA.alloc (Nat.le_refl _) (.cells (tabTo 16) 57)).alloc (by simp) (.cells (tabTo 16) 57)).at_ hlt
      have Hx := Lib.hid (run_take_succ (Crc.flip sum) l k x hx)
      clear hx hA hf
      have hxl := x.toNat_lt
      generalize Crc.run (Crc.flip sum) (nums (l.take k)) = s at *
      have e1 := u32_xor_nat s x.toNat hrl (by omega)
      have hal := Crc.xor_lt hrl (show x.toNat < 4294967296 by omega)
      have Ha := Lib.hid (show Crc.byte s x.toNat = Crc.steps 4 (Crc.steps 4 (s ^^^ x.toNat)) from Crc.byte_nibbles _ _)
      generalize s ^^^ x.toNat = a at *
      have e2 := and15 a hal
      have e3 := nib_walk a hal
      have t1 := tab_get (a % 16) (by omega)
      have hal' := Crc.steps_lt 4 hal
      generalize Crc.steps 4 a = a' at *
      have e4 := and15 a' hal'
      have e5 := nib_walk a' hal'
      have t2 := tab_get (a' % 16) (by omega)
      go_wp2
      go_round
      case rel => exact ⟨k + 1, by omega, by go_num, by rw [Hx.out, Ha.out]⟩
      case measure => simp [intOf]; omega
    · obtain rfl : k = l.length := by omega
      rw [List.take_of_length_le (Nat.le_refl _)] at hrl
      have e1 := flip_walk _ hrl
      go_wp2
      go_ret
      exact ⟨rfl, ((Below.refl _ _).alloc (Nat.le_refl _) _).alloc (by simp) _⟩

set_option maxHeartbeats 400000 in
theorem of_any (A : Option Addr) (cap : Nat) (l : List UInt8) (w : World) (hA : Bytes w w.heap.size A l) (hl : l.length ≤ 9223372036854775807) :
    Calls Try.prog 14 #[.slice A l.length cap] w fun e w' => e = .returned (.int .u32 (Crc.more 0 (nums l))) ∧ Below w.heap.size w w' := by
  go_enter Try.func14, Try.ntmps14
  go_wp2_with (go_at_call 16; refine (more_any 0 _ _ _ _ (by decide) hA hl).mono ?_; rintro e w' ⟨rfl, hb⟩)
  go_ret
  exact ⟨rfl, hb⟩

theorem more_n (sum : Nat) (A : Option Addr) (n cap : Nat) (l : List UInt8) (w : World) (hs : sum < 4294967296) (hA : Bytes w w.heap.size A l) (hn : l.length = n) (hl : n ≤ 9223372036854775807) :
    Calls Try.prog 16 #[.int .u32 sum, .slice A n cap] w fun e w' => e = .returned (.int .u32 (Crc.more sum (nums l))) ∧ Below w.heap.size w w' := by
  subst hn; exact more_any sum A cap l w hs hA hl
theorem of_n (A : Option Addr) (n cap : Nat) (l : List UInt8) (w : World) (hA : Bytes w w.heap.size A l) (hn : l.length = n) (hl : n ≤ 9223372036854775807) :
    Calls Try.prog 14 #[.slice A n cap] w fun e w' => e = .returned (.int .u32 (Crc.more 0 (nums l))) ∧ Below w.heap.size w w' := by
  subst hn; exact of_any A cap l w hA hl
end Go.Proofs.Ytlepallialmceaa
