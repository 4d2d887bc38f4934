/- The walks of package frame: a number's four bytes and back, the sum, a payload's frame, what bytes begin with. -/
import Derived.Test.YtlepallialmceaaCrc
import Derived.Deep.RegionHeld3
import Derived.Deep.QuietTactic
import Derived.BigQuiet
import Derived.ChangeAlike
namespace Go.Proofs.Ytlepallialmceaa
open Go.RowKit

/-- A number's four bytes. -/
def four (n : Nat) : List UInt8 := [UInt8.ofNat n, UInt8.ofNat (n / 256), UInt8.ofNat (n / 65536), UInt8.ofNat (n / 16777216)]
/-- The number of four bytes. -/
def num4 : List UInt8 → Nat
  | a :: b :: c :: d :: _ => a.toNat + 256 * b.toNat + 65536 * c.toNat + 16777216 * d.toNat
  | _ => 0
theorem four_length (n : Nat) : (four n).length = 4 := rfl

theorem four_any (n : Nat) (w : World) (hn : n < 4294967296) :
    Calls Try.prog 34 #[.int .u32 n] w fun e w' => e = .returned (.slice (some ⟨w.heap.size, 0, none⟩) 4 4) ∧ w' = w.alloc (.cells ((four n).map B8).toArray 5) := by
  go_enter Try.func34, Try.ntmps34
  go_wp2
  go_ret
  refine ⟨rfl, congrArg (fun c => w.alloc (.cells c 5)) ?_⟩
  have e : ∀ k : Nat, ((UInt8.ofNat k).toNat : Int) = (k : Int) % 256 := fun k => by rw [UInt8.toNat_ofNat']; omega
  show _ = #[B8 (UInt8.ofNat n), B8 (UInt8.ofNat (n / 256)), B8 (UInt8.ofNat (n / 65536)), B8 (UInt8.ofNat (n / 16777216))]
  unfold B8
  rw [e, e, e, e]
  congr 6 <;> omega

theorem fsum_any (A : Option Addr) (n cap : Nat) (l : List UInt8) (A' : Option Addr) (n' cap' : Nat) (m : List UInt8) (w : World) (hA : Bytes w w.heap.size A l) (hn : l.length = n) (hA' : Bytes w w.heap.size A' m) (hn' : m.length = n') (hl : n ≤ 9223372036854775807) (hm : n' ≤ 9223372036854775807) :
    Calls Try.prog 35 #[.slice A n cap, .slice A' n' cap'] w fun e w' => e = .returned (.int .u32 (Crc.more 0 (nums (l ++ m)))) ∧ Below w.heap.size w w' := by
  have hx : Crc.more 0 (nums l) < 4294967296 := Crc.more_lt (by decide) (nums_lt _)
  go_enter Try.func35, Try.ntmps35
  go_wp2_with fail
  refine (of_n A n cap l _ hA hn hl).mono ?_
  rintro e w1 ⟨rfl, hb1⟩
  go_wp2_with fail
  refine (more_n _ A' n' cap' m _ hx ((hA'.below hb1).more hb1.size) hn' hm).mono ?_
  rintro e w2 ⟨rfl, hb2⟩
  go_wp2_with fail
  go_ret
  exact ⟨by rw [nums_append, Crc.more_append]; rfl, nt hb1 hb2⟩

theorem four_get {l : List UInt8} (h : 4 ≤ l.length) : ∃ x0 x1 x2 x3, l[0]? = some x0 ∧ l[1]? = some x1 ∧ l[2]? = some x2 ∧ l[3]? = some x3 ∧ num4 l = x0.toNat + 256 * x1.toNat + 65536 * x2.toNat + 16777216 * x3.toNat := by
  match l, h with
  | x0 :: x1 :: x2 :: x3 :: r, _ => exact ⟨x0, x1, x2, x3, rfl, rfl, rfl, rfl, rfl⟩
theorem num4_lt (l : List UInt8) : num4 l < 4294967296 := by
  rcases Nat.lt_or_ge l.length 4 with h | h
  · match l, h with
    | [], _ => exact (by decide : (0 : Nat) < 4294967296)
    | [_], _ => exact (by decide : (0 : Nat) < 4294967296)
    | [_, _], _ => exact (by decide : (0 : Nat) < 4294967296)
    | [_, _, _], _ => exact (by decide : (0 : Nat) < 4294967296)
  · obtain ⟨x0, x1, x2, x3, _, _, _, _, e⟩ := four_get h
    have := x0.toNat_lt; have := x1.toNat_lt; have := x2.toNat_lt; have := x3.toNat_lt
    omega
theorem or_sum (a b i : Nat) (ha : a < 2 ^ i) : a ||| b * 2 ^ i = a + b * 2 ^ i := by
  rw [Nat.or_comm, nat_join i _ _ (Nat.mul_mod_left _ _) ha, Nat.add_comm]
theorem or_walk (x0 x1 x2 x3 : Nat) (h0 : x0 < 256) (h1 : x1 < 256) (h2 : x2 < 256) (h3 : x3 < 256) :
    bits .or .u32 (bits .or .u32 (bits .or .u32 (x0 : Int) ((x1 : Int) * 256)) ((x2 : Int) * 65536)) ((x3 : Int) * 16777216) = ((x0 + 256 * x1 + 65536 * x2 + 16777216 * x3 : Nat) : Int) := by
  have e1 : bits .or .u32 (x0 : Int) ((x1 : Int) * 256) = ((x0 + x1 * 256 : Nat) : Int) := by
    have := u32_or_nat x0 (x1 * 256) (by omega) (by omega)
    rw [or_sum x0 x1 8 h0] at this
    rw [← this]; congr 1
  have e2 : bits .or .u32 ((x0 + x1 * 256 : Nat) : Int) ((x2 : Int) * 65536) = ((x0 + x1 * 256 + x2 * 65536 : Nat) : Int) := by
    have := u32_or_nat (x0 + x1 * 256) (x2 * 65536) (by omega) (by omega)
    rw [or_sum (x0 + x1 * 256) x2 16 (by omega)] at this
    rw [← this]; congr 1
  have e3 : bits .or .u32 ((x0 + x1 * 256 + x2 * 65536 : Nat) : Int) ((x3 : Int) * 16777216) = ((x0 + x1 * 256 + x2 * 65536 + x3 * 16777216 : Nat) : Int) := by
    have := u32_or_nat (x0 + x1 * 256 + x2 * 65536) (x3 * 16777216) (by omega) (by omega)
    rw [or_sum (x0 + x1 * 256 + x2 * 65536) x3 24 (by omega)] at this
    rw [← this]; congr 1
  rw [e1, e2, e3]
  omega

set_option maxHeartbeats 400000 in
theorem number_any (b off n cap : Nat) (l : List UInt8) (w : World) (hA : Bytes w w.heap.size (some ⟨b, off, none⟩) l) (hn : l.length = n) (h4 : 4 ≤ n) :
    Calls Try.prog 36 #[.slice (some ⟨b, off, none⟩) n cap] w fun e w' => e = .returned (.int .u32 (num4 l)) ∧ ∃ k, w' = w.drewN k := by
  obtain ⟨b', off', e, _, hc⟩ := hA (by omega)
  injection e with e
  injection e with e1 e2
  subst e1 e2
  obtain ⟨x0, x1, x2, x3, g0, g1, g2, g3, hv⟩ := four_get (l := l) (by omega)
  have c0 : w.cell? ⟨b, off, none⟩ = some (B8 x0) := by have := hc 0 x0 g0; rwa [Nat.add_zero] at this
  have p0 : 0 < n := by omega
  have c1 := hc 1 x1 g1
  have c2 := hc 2 x2 g2
  have c3 := hc 3 x3 g3
  have l0 := x0.toNat_lt; have l1 := x1.toNat_lt; have l2 := x2.toNat_lt; have l3 := x3.toNat_lt
  have i0 : (0 : Int) < (n : Int) := by omega
  have i1 : (1 : Int) < (n : Int) := by omega
  have i2 : (2 : Int) < (n : Int) := by omega
  have i3 : (3 : Int) < (n : Int) := by omega
  have Hv := Lib.hid hv
  have Ho := Lib.hid (or_walk x0.toNat x1.toNat x2.toNat x3.toNat l0 l1 l2 l3)
  clear hc hA g0 g1 g2 g3 hv hn h4
  go_enter Try.func36, Try.ntmps36
  go_wp2_with fail
  go_quiet (fail)
  go_wp2
  go_ret
  refine ⟨congrArg (fun n : Int => Ending.returned (.int .u32 n)) ?_, _, rfl⟩
  rw [Hv.out, ← Ho.out]

/-! ### bytes.Clone -/
/-- A copy of l came back: nil only where there was nil. -/
def ClonePost (A : Option Addr) (n : Nat) (l : List UInt8) (w : World) (e : Ending) (w' : World) : Prop :=
  ∃ A' c, e = .returned (.slice A' n c) ∧ Own w' w.heap.size (.slice A' l.length c) l ∧ (A' = none → A = none) ∧ Below w.heap.size w w'
set_option maxHeartbeats 400000 in
theorem clone_any (A : Option Addr) (n cap : Nat) (l : List UInt8) (w : World) (hA : Bytes w w.heap.size A l) (hn : l.length = n) (hl : n ≤ 140737488355328) (hcap : A = none → cap = 0) :
    Calls Try.prog 37 #[.slice A n cap] w (ClonePost A n l w) := by
  have hq := fun W n' c' => Lib.run_eql_slice_nil (P := Try.prog) W 22 5 A n cap n' c' Try.underlying22
  cases A with
  | none =>
    have hl0 : l = [] := by
      cases l with
      | nil => rfl
      | cons x l => obtain ⟨b, off, e, _⟩ := hA (by simp); cases e
    subst hl0
    obtain rfl := hcap rfl
    obtain rfl : n = 0 := by simpa using hn.symm
    clear hq hn hA hcap
    have hq := fun W => Lib.run_eql_slice_nil (P := Try.prog) W 22 5 none 0 0 0 0 Try.underlying22
    go_enter Try.func37, Try.ntmps37
    go_wp2
    go_ret
    exact ⟨none, 0, rfl, Own.nil_ _ _, fun _ => rfl, nr w⟩
  | some a =>
    subst hn
    have hA1 := Lib.hid (hA.below (na (nr w) (.cells #[] 5)))
    have hn : ([] : List UInt8).length + l.length ≤ 140737488355328 := by simp; omega
    go_enter Try.func37, Try.ntmps37
    go_wp2_with (at_builtin; refine wpList_append_bytes_form rfl (.tmp 5) (.tmp 6) rfl w.heap.size (.slice (some ⟨w.heap.size, 0, none⟩) 0 0) [] rfl (Own.empty _ _ (Nat.le_refl _)) w.heap.size (some a) cap l rfl hA1.out hn (na (nr w) _).size ?_
                 intro A2 c2 w2 hown hg hat; rw [List.nil_append] at hown hat ⊢; clear hA1 hn
                 have hb2 : Below w.heap.size w w2 := (na (nr w) _).grown hg (na (nr w) _).size (fun q e => by simp [Value.ownBlock] at e; omega)
                 have Hat := Lib.hid hat; clear hat; clear hg)
    go_ret
    refine ⟨A2, c2, rfl, hown, fun e => ?_, hb2⟩
    subst e
    have := Hat.out
    simp [Value.ownBlock] at this

/-! ### Wrap -/
/-- A payload's frame. -/
def wrap (p : List UInt8) : List UInt8 := ((165 : UInt8) :: four p.length) ++ four (Crc.more 0 (nums (((165 : UInt8) :: four p.length) ++ p))) ++ p
theorem wrap_length (p : List UInt8) : (wrap p).length = 9 + p.length := by simp [wrap, four]; omega

set_option maxHeartbeats 400000 in
theorem wrap_large (A : Option Addr) (cap n : Nat) (w : World) (hn : 65536 < n) :
    Calls Try.prog 21 #[.slice A n cap] w fun e w' => e = .returned (.tuple #[.slice none 0 0, .int .i64 4]) ∧ w = w' := by
  go_enter Try.func21, Try.ntmps21
  go_wp2
  go_ret2
  exact ⟨rfl, rfl⟩

def WrapPost (p : List UInt8) (w : World) (e : Ending) (w' : World) : Prop :=
  ∃ A' c, e = .returned (.tuple #[.slice A' (9 + p.length) c, .int .i64 0]) ∧ Own w' w.heap.size (.slice A' (wrap p).length c) (wrap p) ∧ Below w.heap.size w w'
set_option maxHeartbeats 400000 in
theorem wrap_any (A : Option Addr) (cap n : Nat) (p : List UInt8) (w : World) (hA : Bytes w w.heap.size A p) (hn : p.length = n) (hp : n ≤ 65536) :
    Calls Try.prog 21 #[.slice A n cap] w (WrapPost p w) := by
  have hS : Crc.more 0 (nums (((165 : UInt8) :: four n) ++ p)) < 4294967296 := Crc.more_lt (by decide) (nums_lt _)
  have Hn := Lib.hid hn
  clear hn
  have hf := four_length n
  go_enter Try.func21, Try.ntmps21
  go_wp2_with fail
  refine (four_any n _ (by omega)).mono ?_
  rintro e w1 ⟨rfl, hw1⟩
  have ho1 : Own w1 w.heap.size (.slice (some ⟨w.heap.size, 0, none⟩) 1 1) [165] := by rw [hw1]; exact (Own.lit w _ (Nat.le_refl _) _ [165] rfl (by decide)).alloc _
  have hs1 : Bytes w1 w1.heap.size (some ⟨w.heap.size + 1, 0, none⟩) (four n) := by
    have := Bytes.new (w.alloc (.cells #[.int .u8 165] 5)) ((four n).map B8).toArray 5 (0, 0) (four n) rfl
    rw [hw1]
    simpa only [World.size_alloc] using this
  have hb1 : Below w.heap.size w w1 := by rw [hw1]; exact na (na (nr w) _) _
  clear hw1
  have hn4 : ([165] : List UInt8).length + (four n).length ≤ 140737488355328 := by simp [four]
  go_wp2_with (at_builtin; refine wpList_append_bytes_form rfl (.tmp 9) (.tmp 13) rfl w.heap.size (.slice (some ⟨w.heap.size, 0, none⟩) 1 1) [165] rfl ho1 w1.heap.size _ 4 (four n) rfl hs1 hn4 hb1.size ?_
               intro A2 c2 w2 hown2 hg hat
               have hb2 : Below w.heap.size w w2 := hb1.grown hg hb1.size (fun q e => (World.ownsRow.lt ho1 q e).1)
               have Hat := Lib.hid hat; clear hat hg ho1 hs1 hn4 hb1)
  refine (fsum_any A2 5 c2 ([165] ++ four n) A n cap p w2 hown2.bytes.1 rfl ((hA.below hb2).more hb2.size) Hn.out (by omega) (by omega)).mono ?_
  rintro e w3 ⟨rfl, hb3⟩
  have hown3 := hown2.new_ hb3
  have hb3 := nt hb2 hb3
  clear hown2 hb2
  rw [show (([165] : List UInt8) ++ four n) = (165 : UInt8) :: four n from rfl] at hown3 ⊢
  have HS := Lib.hid (show wrap p = ((165 : UInt8) :: four n) ++ four (Crc.more 0 (nums (((165 : UInt8) :: four n) ++ p))) ++ p by unfold wrap; rw [Hn.out])
  generalize Crc.more 0 (nums (((165 : UInt8) :: four n) ++ p)) = S at *
  have hf2 := four_length S
  go_wp2_with fail
  refine (four_any S _ hS).mono ?_
  rintro e w4 ⟨rfl, hw4⟩
  have hs4 : Bytes w4 w4.heap.size (some ⟨w3.heap.size, 0, none⟩) (four S) := by rw [hw4]; exact Bytes.new _ _ _ _ _ rfl
  have hb4 : Below w.heap.size w w4 := by rw [hw4]; exact na hb3 _
  have hown4 : Own w4 w.heap.size (.slice A2 ((165 : UInt8) :: four n).length c2) ((165 : UInt8) :: four n) := by rw [hw4]; exact hown3.alloc _
  clear hw4 hown3
  have hn4 : ((165 : UInt8) :: four n).length + (four S).length ≤ 140737488355328 := by simp [four]
  have hn5 : (((165 : UInt8) :: four n) ++ four S).length + p.length ≤ 140737488355328 := by simp [four]; have := Hn.out; omega
  go_wp2_with (first
    | (at_builtin; refine wpList_append_bytes_form rfl (.tmp 15) (.tmp 19) rfl w.heap.size (.slice A2 5 c2) ((165 : UInt8) :: four n) rfl hown4 w4.heap.size _ 4 (four S) rfl hs4 hn4 hb4.size ?_
       intro A5 c5 w5 hown5 hg hat
       have hb5 : Below w.heap.size w w5 := hb4.grown hg hb4.size (fun q e => (World.ownsRow.lt hown4 q e).1)
       have Hat := Lib.hid hat; clear hat hg hown4 hs4 hn4 hb4)
    | (at_builtin; refine wpList_append_bytes_form rfl (.tmp 21) (.tmp 22) rfl w.heap.size (.slice A5 (((165 : UInt8) :: four n) ++ four S).length c5) (((165 : UInt8) :: four n) ++ four S) rfl hown5 w.heap.size A cap p (congrArg (fun k => Value.slice A k cap) Hn.out.symm) (hA.below hb5) hn5 hb5.size ?_
       intro A6 c6 w6 hown6 hg hat
       have hb6 : Below w.heap.size w w6 := hb5.grown hg hb5.size (fun q e => (World.ownsRow.lt hown5 q e).1)
       have Hat := Lib.hid hat; clear hat hg hown5 hn5 hb5))
  go_ret2
  refine ⟨A6, c6, ?_, by rw [HS.out]; exact hown6, hb6⟩
  show Ending.returned (.tuple #[.slice A6 (4 + (4 + p.length) + 1) c6, .int .i64 0]) = _
  rw [show 4 + (4 + p.length) + 1 = 9 + p.length by omega]

/-! ### Size -/
theorem size_any (n : Int) (w : World) :
    Calls Try.prog 28 #[.int .i64 n] w fun e w' => e = .returned (.int .i64 (if 0 ≤ n ∧ n ≤ 65536 then 9 + n else 0)) ∧ w = w' := by
  by_cases h1 : n < 0
  · rw [if_neg (by omega)]
    go_enter Try.func28, Try.ntmps28
    go_wp2
    go_ret
    exact ⟨rfl, rfl⟩
  by_cases h2 : 65536 < n
  · rw [if_neg (by omega)]
    go_enter Try.func28, Try.ntmps28
    go_wp2
    go_ret
    exact ⟨rfl, rfl⟩
  · rw [if_pos (by omega)]
    go_enter Try.func28, Try.ntmps28
    go_wp2
    go_ret
    exact ⟨rfl, rfl⟩
end Go.Proofs.Ytlepallialmceaa
