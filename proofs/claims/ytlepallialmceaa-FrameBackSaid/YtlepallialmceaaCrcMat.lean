/- The walks of package crc's matrices: what so many steps make of each bit; two sums joined. -/
import Derived.Test.YtlepallialmceaaCrc
namespace Go.Proofs.Ytlepallialmceaa
open Go.RowKit

/-- What k steps make of each bit. -/
def mat (k : Nat) : Array Value := ((List.range 32).map fun j => Value.int .u32 (Crc.steps k (2 ^ j) : Int)).toArray
theorem mat_size (k : Nat) : (mat k).size = 32 := by simp [mat]
theorem mat_get (k i : Nat) (h : i < 32) : (mat k)[i]? = some (.int .u32 (Crc.steps k (2 ^ i) : Int)) := by simp [mat, h]
theorem mat_one (k : Nat) : (mat k).all (·.oneCell') = true := by
  rw [Array.all_eq_true_iff_forall_mem]
  intro v hv
  simp only [mat, List.mem_toArray, List.mem_map] at hv
  obtain ⟨j, _, rfl⟩ := hv
  rfl

theorem run_index_row {P : Program} (w : World) (t e n : Nat) (cs : Array Value) (k : IntKind) (i : Nat) (v : Value) (hu : P.underlying t = some (.array n e)) (hs : (P.info? e).map (·.size) = some 1)
    (ha : (match P.underlying e with | some (.struct _) => true | some (.array _ _) => true | none => true | _ => false) = false) (hl : i < n) (hv : cs[i]? = some v) :
    (Instr.index t (.agg cs) (.int k (i : Int))).run P w = .ok v w := by
  cases hq : P.info? e with
  | none => simp [hq] at hs
  | some inf =>
    cases hue : P.underlying e with
    | none => simp [hue] at ha
    | some d =>
      have h1 : inf.size = 1 := by simpa [hq] using hs
      simp [Instr.index, run_underlying hu, asIntOf, hl, sizeOf, typeInfo, hq, h1, part, isAgg, run_underlying hue, go_sem]
      cases d <;> simp_all

/-! ### (*matrix).of -/
theorem two_pow_split (v i k : Nat) : Crc.steps k (v * 2 ^ i) = (if v % 2 = 1 then Crc.steps k (2 ^ i) else 0) ^^^ Crc.steps k (v / 2 * 2 ^ (i + 1)) := by
  have hv2 : v = v % 2 ^^^ v / 2 * 2 ^ 1 := by
    apply Nat.eq_of_testBit_eq; intro j
    rw [Nat.testBit_xor, Nat.testBit_mul_two_pow]
    cases j with
    | zero => simp
    | succ j =>
      have : (v % 2).testBit (j + 1) = false := Nat.testBit_lt_two_pow (Nat.lt_of_lt_of_le (Nat.mod_lt _ (by omega)) (Nat.pow_le_pow_right (n := 2) (by omega) (show 1 ≤ j + 1 by omega)))
      rw [this, Bool.false_xor]
      simp [Nat.testBit_succ]
  have hd : ∀ a b : Nat, (a ^^^ b) * 2 ^ i = a * 2 ^ i ^^^ b * 2 ^ i := by
    intro a b
    apply Nat.eq_of_testBit_eq; intro j
    simp only [Nat.testBit_xor, Nat.testBit_mul_two_pow]
    by_cases hj : i ≤ j <;> simp [hj]
  have e : v * 2 ^ i = v % 2 * 2 ^ i ^^^ v / 2 * 2 ^ (i + 1) := by
    conv => lhs; rw [hv2, hd, Nat.mul_assoc, ← Nat.pow_add, Nat.add_comm 1 i]
  rw [e, Crc.steps_xor]
  congr 1
  by_cases h : v % 2 = 1
  · rw [if_pos h, h, Nat.one_mul]
  · rw [if_neg h, show v % 2 = 0 by omega, Nat.zero_mul, Crc.steps_zero]
theorem and1 (a : Nat) (h : a < 4294967296) : bits .and .u32 (a : Int) 1 = ((a % 2 : Nat) : Int) := by
  rw [show (1 : Int) = ((1 : Nat) : Int) from rfl, u32_and_nat a 1 h (by decide), nat_mask1]

set_option maxHeartbeats 400000 in
theorem mof_any (g k v : Nat) (w : World) (hv : v < 4294967296) (hg : w.heap[g]? = some (.cells (mat k) 61 (0, 0))) :
    Calls Try.prog 33 #[.pointer (some ⟨g, 0, none⟩), .int .u32 v] w fun e w' => e = .returned (.int .u32 (Crc.steps k v)) ∧ w = w' := by
  have hcell : ∀ i, i < 32 → w.cell? ⟨g, i, none⟩ = some (.int .u32 (Crc.steps k (2 ^ i) : Int)) := fun i hi => by
    rw [cell_of_row w g i _ _ _ hg, mat_get k i hi]
  have Hg := Lib.hid hcell
  clear hcell hg
  go_enter Try.func33, Try.ntmps33
  go_wp2
  go_loop [1, 5, 6] (fun v1 out i => ∃ j u o : Nat, j ≤ 32 ∧ u < 2 ^ (32 - j) ∧ o < 4294967296 ∧ Hid (o ^^^ Crc.steps k (u * 2 ^ j) = Crc.steps k v) ∧ v1 = .int .u32 u ∧ out = .int .u32 o ∧ i = .int .i64 j) (fun v1 _ _ => (intOf v1).toNat)
  case atStart => exact ⟨0, v, 0, by omega, hv, by omega, by unfold Hid; simp, rfl, rfl, rfl⟩
  case round =>
    obtain ⟨j, u, o, hj, hu, ho, Ho, rfl, rfl, rfl⟩ := hrel
    by_cases hu0 : u = 0
    · subst hu0
      go_wp2
      go_ret
      exact ⟨congrArg (fun n : Nat => Ending.returned (.int .u32 (n : Int))) (by have := Ho.out; rwa [Nat.zero_mul, Crc.steps_zero, Nat.xor_zero] at this), rfl⟩
    · have hj32 : j < 32 := by
        rcases Nat.lt_or_ge j 32 with h | h
        · exact h
        · rw [show 32 - j = 0 by omega] at hu; simp at hu; omega
      have hul : u < 4294967296 := Nat.lt_of_lt_of_le hu (show 2 ^ (32 - j) ≤ 2 ^ 32 from Nat.pow_le_pow_right (by omega) (by omega))
      have hu2 : u / 2 < 2 ^ (32 - (j + 1)) := by
        have : 2 ^ (32 - j) = 2 ^ (32 - (j + 1)) * 2 := by rw [← Nat.pow_succ]; congr 1; omega
        omega
      have Hs := Lib.hid (two_pow_split u j k)
      have e1 := and1 u hul
      have hne : ((u : Int) != 0) = true := by rw [bne_iff_ne]; omega
      have hc := Hg.out j hj32
      by_cases hm : u % 2 = 1
      · have hm' : (((u % 2 : Nat) : Int) != 0) = true := by rw [bne_iff_ne]; omega
        have hsl := Crc.steps_lt k (s := 2 ^ j) (Nat.pow_lt_pow_right (a := 2) (by omega) hj32)
        have e2 := u32_xor_nat o (Crc.steps k (2 ^ j)) ho hsl
        have hol := Crc.xor_lt ho hsl
        have Ho' : Hid ((o ^^^ Crc.steps k (2 ^ j)) ^^^ Crc.steps k (u / 2 * 2 ^ (j + 1)) = Crc.steps k v) := by
          have h1 := Ho.out
          rw [Hs.out, if_pos hm] at h1
          unfold Hid
          rw [Nat.xor_assoc]; exact h1
        clear hu hm Hs Ho
        go_wp2
        go_round
        case rel => exact ⟨j + 1, u / 2, _, by omega, hu2, hol, Ho', by go_num, rfl, by go_num⟩
        case measure => simp [intOf]; omega
      · have Ho' : Hid (o ^^^ Crc.steps k (u / 2 * 2 ^ (j + 1)) = Crc.steps k v) := by
          have h1 := Ho.out
          rw [Hs.out, if_neg hm, Nat.zero_xor] at h1
          exact h1
        clear hu Hs Ho
        go_wp2
        go_round
        case rel => exact ⟨j + 1, u / 2, _, by omega, hu2, ho, Ho', by go_num, rfl, by go_num⟩
        case measure => simp [intOf]; omega

/-! ### matrix.twice -/
/-- The matrix of k steps as it stands behind i rounds. -/
def matTo (k i : Nat) : Array Value := ((List.range 32).map fun j => if j < i then Value.int .u32 (Crc.steps k (2 ^ j) : Int) else .int .u32 0).toArray
theorem matTo_zero (k : Nat) : matTo k 0 = #[.int .u32 0, .int .u32 0, .int .u32 0, .int .u32 0, .int .u32 0, .int .u32 0, .int .u32 0, .int .u32 0, .int .u32 0, .int .u32 0, .int .u32 0, .int .u32 0, .int .u32 0, .int .u32 0, .int .u32 0, .int .u32 0, .int .u32 0, .int .u32 0, .int .u32 0, .int .u32 0, .int .u32 0, .int .u32 0, .int .u32 0, .int .u32 0, .int .u32 0, .int .u32 0, .int .u32 0, .int .u32 0, .int .u32 0, .int .u32 0, .int .u32 0, .int .u32 0] := by rfl
theorem matTo_end (k : Nat) : matTo k 32 = mat k := by
  unfold matTo mat
  apply congrArg
  apply List.map_congr_left
  intro j hj
  rw [if_pos (by simpa using hj)]
theorem matTo_size (k i : Nat) : (matTo k i).size = 32 := by simp [matTo]
theorem matTo_one (k i : Nat) : (matTo k i).all (·.oneCell') = true := by
  rw [Array.all_eq_true_iff_forall_mem]
  intro v hv
  simp only [matTo, List.mem_toArray, List.mem_map] at hv
  obtain ⟨j, _, rfl⟩ := hv
  split <;> rfl
theorem matTo_at (k i : Nat) (h : i < 32) : (matTo k i)[i]? = some (.int .u32 0) := by simp [matTo, h]
theorem matTo_succ (k i : Nat) : (matTo k i).setIfInBounds i (.int .u32 (Crc.steps k (2 ^ i) : Int)) = matTo k (i + 1) := by
  apply Array.ext
  · simp [matTo]
  · intro j h1 h2
    have hj : j < 32 := by simpa [matTo] using h2
    rw [Array.getElem_setIfInBounds (by simpa [matTo] using hj)]
    by_cases e : i = j
    · subst e; simp [matTo]
    · simp only [if_neg e]
      simp only [matTo, List.getElem_toArray, List.getElem_map, List.getElem_range]
      by_cases hk : j < i
      · rw [if_pos hk, if_pos (by omega)]
      · rw [if_neg hk, if_neg (by omega)]

theorem heap3_0 (w : World) (a b c : Obj) : (((w.alloc a).alloc b).alloc c).heap[w.heap.size]? = some a := by
  rw [heap_alloc_old (h := by simp; omega)]; exact heap_alloc2_old _ _ _
theorem heap3_1 (w : World) (a b c : Obj) : (((w.alloc a).alloc b).alloc c).heap[w.heap.size + 1]? = some b := by
  rw [heap_alloc_old (h := by simp)]; exact heap_alloc2_new _ _ _
theorem heap3_2 (w : World) (a b c : Obj) : (((w.alloc a).alloc b).alloc c).heap[w.heap.size + 1 + 1]? = some c := by
  have := heap_alloc2_new (w.alloc a) b c
  rwa [World.size_alloc] at this
theorem setRow_alloc_lt (w : World) (o : Obj) (g : Nat) (new : Array Value) (h : g < w.heap.size) : (w.alloc o).setRow g new = (w.setRow g new).alloc o := by
  unfold World.setRow World.alloc
  congr 1
  apply Array.ext
  · simp
  · intro k h1 h2
    have hk : k < w.heap.size + 1 := by simpa using h1
    by_cases e : k < w.heap.size
    · rw [Array.getElem_modify, Array.getElem_push_lt e, Array.getElem_push_lt (by simpa using e), Array.getElem_modify]
    · obtain rfl : k = w.heap.size := by omega
      rw [Array.getElem_modify, if_neg (by omega)]
      simp [Array.getElem_push]
theorem setRow3_1 (w : World) (a c : Obj) (old new : Array Value) (t : TypeId) : (((w.alloc a).alloc (.cells old t)).alloc c).setRow (w.heap.size + 1) new = ((w.alloc a).alloc (.cells new t)).alloc c := by
  rw [setRow_alloc_lt _ _ _ _ (by simp), setRow_alloc2]

set_option maxHeartbeats 400000 in
theorem twice_any (k : Nat) (w : World) :
    Calls Try.prog 32 #[.agg (mat k)] w fun e w' => e = .returned (.agg (mat (k + k))) ∧ Below w.heap.size w w' := by
  have tok : True := trivial
  go_enter Try.func32, Try.ntmps32
  go_wp2_with (refine wpList_load_row rfl 61 (.tmp 1) rfl w.heap.size rfl 61 _ _ _ (heap3_0 w (.cells (mat k) 61) _ _) Try.underlying61 rfl (by kernel_rfl) ?_)
  rw [← matTo_zero (k + k)]
  clear tok
  go_loopw [7] (fun t wr => ∃ i : Nat, i ≤ 32 ∧ t = .int .i64 i ∧ wr = ((w.alloc (.cells (mat k) 61)).alloc (.cells (matTo (k + k) 0) 61)).alloc (.cells (matTo (k + k) i) 61)) (fun t _ => 32 - (intOf t).toNat)
  case atStart => exact ⟨0, by omega, rfl, rfl⟩
  case round =>
    obtain ⟨i, hi, rfl, rfl⟩ := hrel
    by_cases hlt : i < 32
    · have hidx := fun wx => run_index_row (P := Try.prog) wx 61 23 32 (mat k) .i64 i _ Try.underlying61 (by kernel_rfl) (by kernel_rfl) hlt (mat_get k i hlt)
      have hsl := Crc.steps_lt k (s := 2 ^ i) (Nat.pow_lt_pow_right (a := 2) (by omega) hlt)
      have hat := matTo_at (k + k) i hlt
      go_wp2_with (go_at_call 33; refine (mof_any w.heap.size k _ _ hsl (heap3_0 w (.cells (mat k) 61) _ _)).mono ?_; rintro e w' ⟨rfl, rfl⟩)
      go_roundw
      case rel => exact ⟨i + 1, by omega, by go_num, by rw [← matTo_succ, Crc.steps_add]⟩
      case measure => simp [intOf]; omega
    · obtain rfl : i = 32 := by omega
      rw [matTo_end]
      go_wp2_with (first
        | (refine wpList_load_row rfl 61 (.tmp 3) rfl (w.heap.size + 1 + 1) rfl 61 _ _ _ (heap3_2 w (.cells (mat k) 61) (.cells (matTo (k + k) 0) 61) _) Try.underlying61 rfl (by kernel_rfl) ?_)
        | (refine wpList_store_row rfl 61 (.tmp 2) (.tmp 16) rfl (w.heap.size + 1) (mat (k + k)) rfl rfl 61 (matTo (k + k) 0) (heap3_1 w (.cells (mat k) 61) (.cells (matTo (k + k) 0) 61) _) (by kernel_rfl) ((matTo_size _ _).trans (mat_size _).symm) (mat_one _) ?_; rw [setRow3_1]))
      exact bodyPost_ret (results_cell_row (p := 2) (ty := 61) rfl _ _ (w.heap.size + 1) 61 (mat (k + k)) _ _ rfl (heap3_1 w (.cells (mat k) 61) (.cells (mat (k + k)) 61) _) Try.underlying61 rfl (by kernel_rfl)) rfl
        ⟨rfl, (((Below.refl _ _).alloc (Nat.le_refl _) _).alloc (by simp) _).alloc (by simp; omega) _⟩

/-! ### step -/
theorem matTo_1_1 : matTo 1 1 = #[.int .u32 2197175160, .int .u32 0, .int .u32 0, .int .u32 0, .int .u32 0, .int .u32 0, .int .u32 0, .int .u32 0, .int .u32 0, .int .u32 0, .int .u32 0, .int .u32 0, .int .u32 0, .int .u32 0, .int .u32 0, .int .u32 0, .int .u32 0, .int .u32 0, .int .u32 0, .int .u32 0, .int .u32 0, .int .u32 0, .int .u32 0, .int .u32 0, .int .u32 0, .int .u32 0, .int .u32 0, .int .u32 0, .int .u32 0, .int .u32 0, .int .u32 0, .int .u32 0] := by rfl
theorem steps_one_pow (i : Nat) (h : 1 ≤ i) : Crc.steps 1 (2 ^ i) = 2 ^ (i - 1) := by
  show Crc.step (2 ^ i) = _
  obtain ⟨j, rfl⟩ : ∃ j, i = j + 1 := ⟨i - 1, by omega⟩
  rw [Crc.step_even (by rw [Nat.pow_succ]; omega), Nat.pow_succ, Nat.mul_div_cancel _ (by omega), Nat.add_sub_cancel]

theorem pow_walk (i : Nat) (h1 : 1 ≤ i) (h2 : i < 32) : (2 : Int) ^ (i - 1) % 4294967296 = (Crc.steps 1 (2 ^ i) : Int) := by
  rw [steps_one_pow i h1]
  have h3 : 2 ^ (i - 1) < 4294967296 := show 2 ^ (i - 1) < 2 ^ 32 from Nat.pow_lt_pow_right (by omega) (by omega)
  have h4 : ((2 ^ (i - 1) : Nat) : Int) = (2 : Int) ^ (i - 1) := by rw [Int.natCast_pow]; rfl
  rw [← h4]
  clear h4
  generalize 2 ^ (i - 1) = q at h3 ⊢
  omega
theorem wpList_build_of {P : Program} {ops : Array Oper} {rest : List Oper} {o : Oper} {a : Act} {w : World} {Q : Exit → Act → World → Prop} (hg : o.guard = none) (t : TypeId) (parts : Array (Nat × Operand)) (ho : o.op = .build t parts)
    (cells : Array Value) (hf : P.built t (parts.map fun (i, x) => (i, a.eval x)).toList = some cells)
    (h : wpList P ops Q rest (a.put o.dst (.agg cells)) w) : wpList P ops Q (o :: rest) a w :=
  wpList_build hg t parts ho (by rw [hf]; rfl) (by rw [hf]; exact h)

set_option maxHeartbeats 400000 in
theorem step_any (w : World) :
    Calls Try.prog 31 #[] w fun e w' => e = .returned (.agg (mat 1)) ∧ Below w.heap.size w w' := by
  go_enter Try.func31, Try.ntmps31
  go_wp2_with (first
    | (refine wpList_build_of rfl 61 _ rfl (matTo 1 1) (by kernel_rfl) ?_)
    | (refine wpList_store_row rfl 61 (.tmp 1) (.tmp 3) rfl (w.heap.size + 1) (matTo 1 1) rfl rfl 61 _ (heap_alloc2_new w _ _) (by kernel_rfl) (by kernel_rfl) (matTo_one _ _) ?_; rw [setRow_alloc2]))
  rw [← matTo_zero 1]
  go_loopw [2] (fun t wr => ∃ i : Nat, 1 ≤ i ∧ i ≤ 32 ∧ t = .int .i64 i ∧ wr = (w.alloc (.cells (matTo 1 0) 61)).alloc (.cells (matTo 1 i) 61)) (fun t _ => 32 - (intOf t).toNat)
  case atStart => exact ⟨1, by omega, by omega, rfl, rfl⟩
  case round =>
    obtain ⟨i, hi1, hi, rfl, rfl⟩ := hrel
    by_cases hlt : i < 32
    · have hat := matTo_at 1 i hlt
      have hp := pow_walk i hi1 hlt
      have Hp := Lib.hid hp
      clear hp
      go_wp2
      go_roundw
      case rel => exact ⟨i + 1, by omega, by omega, by go_num, by rw [Hp.out, matTo_succ]⟩
      case measure => simp [intOf]; omega
    · obtain rfl : i = 32 := by omega
      rw [matTo_end]
      go_wp2_with (first
        | (refine wpList_load_row rfl 61 (.tmp 1) rfl (w.heap.size + 1) rfl 61 _ _ _ (heap_alloc2_new w (.cells (matTo 1 0) 61) _) Try.underlying61 rfl (by kernel_rfl) ?_)
        | (refine wpList_store_row rfl 61 (.tmp 0) (.tmp 14) rfl w.heap.size (mat 1) rfl rfl 61 (matTo 1 0) (heap_alloc2_old w (.cells (matTo 1 0) 61) _) (by kernel_rfl) (by kernel_rfl) (mat_one _) ?_; rw [setRow_alloc_lt _ _ _ _ (by simp), setRow_alloc]))
      exact bodyPost_ret (results_cell_row (p := 0) (ty := 61) rfl _ _ w.heap.size 61 (mat 1) _ _ rfl (heap_alloc2_old w (.cells (mat 1) 61) _) Try.underlying61 rfl (by kernel_rfl)) rfl
        ⟨rfl, ((Below.refl _ _).alloc (Nat.le_refl _) _).alloc (by simp) _⟩

/-! ### Join -/
theorem and1_int (m : Nat) (h : m < 9223372036854775808) : bits .and .i64 (m : Int) 1 = ((m % 2 : Nat) : Int) := by
  have h1 : (BitVec.ofInt 64 (m : Int)).toNat = m := by
    rw [BitVec.ofInt_natCast, BitVec.toNat_ofNat]; exact Nat.mod_eq_of_lt (by omega)
  have h2 : (BitVec.ofInt 64 1).toNat = 1 := by decide
  show IntKind.i64.wrap ((BitVec.ofInt 64 (m : Int) &&& BitVec.ofInt 64 1).toNat : Int) = _
  rw [BitVec.toNat_and, h1, h2, nat_mask1, IntKind.wrap_i64]
  omega
theorem join_step (p m x a0 : Nat) (h : Crc.steps (p * m) x = a0) : Crc.steps ((p + p) * (m / 2)) (if m % 2 = 1 then Crc.steps p x else x) = a0 := by
  by_cases hm : m % 2 = 1
  · rw [if_pos hm, ← Crc.steps_add, ← h]
    congr 1
    have : m = 2 * (m / 2) + 1 := by omega
    conv => rhs; rw [this]
    rw [Nat.mul_add, Nat.mul_one, ← Nat.mul_assoc, Nat.mul_two, Nat.add_comm]
  · rw [if_neg hm, ← h]
    congr 1
    have : m = 2 * (m / 2) := by omega
    conv => rhs; rw [this]
    rw [← Nat.mul_assoc, Nat.mul_two]

set_option maxHeartbeats 400000 in
theorem join_none (a b : Nat) (n : Int) (w : World) (hn : n < 1) :
    Calls Try.prog 18 #[.int .u32 a, .int .u32 b, .int .i64 n] w fun e w' => e = .returned (.int .u32 a) ∧ w = w' := by
  go_enter Try.func18, Try.ntmps18
  go_wp2
  go_ret
  exact ⟨rfl, rfl⟩

set_option maxHeartbeats 400000 in
theorem join_any (a b n : Nat) (w : World) (ha : a < 4294967296) (hb : b < 4294967296) (hn : 1 ≤ n) (hn2 : n < 9223372036854775808) :
    Calls Try.prog 18 #[.int .u32 a, .int .u32 b, .int .i64 n] w fun e w' => e = .returned (.int .u32 (Crc.join a b n)) ∧ Below w.heap.size w w' := by
  go_enter Try.func18, Try.ntmps18
  go_wp2_with fail
  refine (step_any _).mono ?_
  rintro e w1 ⟨rfl, hb1⟩
  go_wp2_with fail
  refine (twice_any 1 _).mono ?_
  rintro e w2 ⟨rfl, hb2⟩
  go_wp2_with fail
  refine (twice_any 2 _).mono ?_
  rintro e w3 ⟨rfl, hb3⟩
  go_wp2_with fail
  refine (twice_any 4 _).mono ?_
  rintro e w4 ⟨rfl, hb4⟩
  have hbb : Below w.heap.size w w4 := ((hb1.trans (hb2.mono hb1.size)).trans (hb3.mono (Nat.le_trans hb1.size hb2.size))).trans (hb4.mono (Nat.le_trans hb1.size (Nat.le_trans hb2.size hb3.size)))
  clear hb1 hb2 hb3 hb4
  have Hbb := Lib.hid hbb
  clear hbb
  go_wp2_with (refine wpList_store_row rfl 61 (.tmp 7) (.tmp 14) rfl w4.heap.size (mat 8) rfl rfl 61 _ (heap_alloc_new _ _) (by kernel_rfl) (by kernel_rfl) (mat_one _) ?_; rw [setRow_alloc]; simp only [Act.put])
  have hG := heap_alloc_new w4 (.cells (mat 8) 61)
  have hB : Below w.heap.size w (w4.alloc (.cells (mat 8) 61)) := Hbb.out.alloc Hbb.out.size _
  have hgB : w.heap.size ≤ w4.heap.size := Hbb.out.size
  have H := Lib.hid (And.intro hG hB)
  clear hG hB Hbb
  go_loopw [0, 2] (fun x m wr => ∃ p q r : Nat, r < 4294967296 ∧ q < 9223372036854775808 ∧ x = .int .u32 r ∧ m = .int .i64 q ∧ Hid (Crc.steps (p * q) r = Crc.steps (8 * n) a) ∧ Hid (wr.heap[w4.heap.size]? = some (.cells (mat p) 61 (0, 0)) ∧ Below w.heap.size w wr)) (fun _ m _ => (intOf m).toNat)
  case atStart => exact ⟨8, n, a, ha, hn2, rfl, rfl, rfl, H⟩
  case round =>
    obtain ⟨p, q, r, hr, hq, rfl, rfl, Hs, HW⟩ := hrel
    clear H
    by_cases hq0 : q = 0
    · subst hq0
      have he : r = Crc.steps (8 * n) a := Hs.out
      have Hr := Lib.hid he
      clear he Hs
      have ex := u32_xor_nat r b hr hb
      go_wp2
      go_ret
      exact ⟨congrArg (fun n : Nat => Ending.returned (.int .u32 (n : Int))) (by unfold Crc.join; rw [if_neg (by omega), Hr.out]), HW.out.2⟩
    · have e1 := and1_int q hq
      have Hs' := Lib.hid (join_step p q r _ Hs.out)
      clear Hs
      by_cases hm : q % 2 = 1
      · have hm' : (((q % 2 : Nat) : Int) != 0) = true := by rw [bne_iff_ne]; omega
        rw [if_pos hm] at Hs'
        have hsl := Crc.steps_lt p hr
        go_wp2_with fail
        refine (mof_any w4.heap.size p r _ hr HW.out.1).mono ?_
        rintro e w' ⟨rfl, rfl⟩
        generalize Crc.steps p r = r1 at *
        go_wp2_with (refine wpList_load_row rfl 61 (.tmp 7) rfl w4.heap.size rfl 61 _ _ _ HW.out.1 Try.underlying61 rfl (by kernel_rfl) ?_)
        refine (twice_any p _).mono ?_
        rintro e w5 ⟨rfl, hb5⟩
        have hw5 : w5.heap[w4.heap.size]? = some (.cells (mat p) 61 (0, 0)) := (hb5.block _ (Array.getElem?_eq_some_iff.1 HW.out.1).1).trans HW.out.1
        have H5 := Lib.hid (And.intro hw5 ((HW.out.2).trans (hb5.mono HW.out.2.size)))
        clear hw5 hb5
        go_wp2_with (refine wpList_store_row rfl 61 (.tmp 7) (.tmp 25) rfl w4.heap.size (mat (p + p)) rfl rfl 61 _ H5.out.1 (by kernel_rfl) ((mat_size _).trans (mat_size _).symm) (mat_one _) ?_; simp only [Act.put])
        go_roundw
        case rel => exact ⟨p + p, q / 2, _, hsl, by omega, rfl, by go_num, Hs', setRow_heap _ _ _ _ _ _ H5.out.1, below_setRow H5.out.2 hgB _⟩
        case measure => simp [intOf]; omega
      · have hm' : (((q % 2 : Nat) : Int) != 0) = false := by rw [bne_eq_false_iff_eq]; omega
        rw [if_neg hm] at Hs'
        go_wp2_with (refine wpList_load_row rfl 61 (.tmp 7) rfl w4.heap.size rfl 61 _ _ _ HW.out.1 Try.underlying61 rfl (by kernel_rfl) ?_)
        refine (twice_any p _).mono ?_
        rintro e w5 ⟨rfl, hb5⟩
        have hw5 : w5.heap[w4.heap.size]? = some (.cells (mat p) 61 (0, 0)) := (hb5.block _ (Array.getElem?_eq_some_iff.1 HW.out.1).1).trans HW.out.1
        have H5 := Lib.hid (And.intro hw5 ((HW.out.2).trans (hb5.mono HW.out.2.size)))
        clear hw5 hb5
        go_wp2_with (refine wpList_store_row rfl 61 (.tmp 7) (.tmp 25) rfl w4.heap.size (mat (p + p)) rfl rfl 61 _ H5.out.1 (by kernel_rfl) ((mat_size _).trans (mat_size _).symm) (mat_one _) ?_; simp only [Act.put])
        go_roundw
        case rel => exact ⟨p + p, q / 2, _, hr, by omega, rfl, by go_num, Hs', setRow_heap _ _ _ _ _ _ H5.out.1, below_setRow H5.out.2 hgB _⟩
        case measure => simp [intOf]; omega
end Go.Proofs.Ytlepallialmceaa
