/- The walks of symtab's Find and Prefix. -/
import Derived.Test.YtegpoghgddjmaaaSymBelow
import Derived.Deep.RegionWith
namespace Go.Proofs.Ytegpoghgddjmaaa
open Go.RowKit
set_option maxRecDepth 100000

/-- Is there such a text? -/
def foundS (L : List (List UInt8)) (s : List UInt8) : Bool := decide (belowS L s < L.length) && (txt L (belowS L s) == s)
def FindPost (L : List (List UInt8)) (s : List UInt8) (w : World) (e : Ending) (w' : World) : Prop :=
  e = .returned (.tuple #[.int .i64 ((if foundS L s = true then belowS L s else 0 : Nat) : Int), .bool (foundS L s)]) ∧ Below w.heap.size w w'
set_option maxHeartbeats 2000000 in
theorem find_any (g : Nat) (L : List (List UInt8)) (s : List UInt8) (v : Value) (xs : List Value) (w : World) (hT : Tab w g L v xs) (hl : L.length ≤ 4096) (hL : L.Pairwise (· < ·)) :
    Calls Try.prog 68 #[.pointer (some ⟨g, 0, none⟩), S8 s] w (FindPost L s w) := by
  have Hb := Lib.hid (below_any g L s v xs w hT hl hL)
  have HT := Lib.hid hT
  clear hT hL
  go_enter Try.func68, Try.ntmps68
  go_wp2_with fail
  refine Hb.out.mono ?_
  rintro e w1 ⟨rfl, hb1⟩
  have HB := Lib.hid hb1
  clear hb1
  by_cases hin : belowS L s < L.length
  · have Ha := Lib.hid (at_yes g (belowS L s) L v xs w1 (HT.out.new_ HB.out) hin hl)
    cases hx : (txt L (belowS L s) == s) with
    | true =>
      have hf := Lib.hid (show foundS L s = true by unfold foundS; rw [decide_eq_true hin, hx]; rfl)
      generalize txt L (belowS L s) = X at *
      have hX : X = s := by simpa using hx
      clear hx
      subst hX
      go_wp2_with fail
      refine Ha.out.mono ?_
      rintro e w2 ⟨rfl, hb2⟩
      have HB2 := Lib.hid (nt HB.out hb2)
      clear hb2
      go_wp2_with fail
      go_ret2
      exact ⟨by rw [hf.out, if_pos rfl]; rfl, HB2.out⟩
    | false =>
      have hf := Lib.hid (show foundS L s = false by unfold foundS; rw [hx, Bool.and_false])
      generalize txt L (belowS L s) = X at *
      go_wp2_with fail
      refine Ha.out.mono ?_
      rintro e w2 ⟨rfl, hb2⟩
      have HB2 := Lib.hid (nt HB.out hb2)
      clear hb2
      go_wp2_with fail
      go_ret2
      exact ⟨by rw [hf.out, if_neg (by simp)]; rfl, HB2.out⟩
  · have Ha := Lib.hid (at_no g L v xs w1 (belowS L s : Nat) (HT.out.new_ HB.out) (.inr (by omega)))
    have hf := Lib.hid (show foundS L s = false by unfold foundS; rw [decide_eq_false hin, Bool.false_and])
    go_wp2_with fail
    refine Ha.out.mono ?_
    rintro e w2 ⟨rfl, rfl⟩
    go_wp2_with fail
    go_ret2
    exact ⟨by rw [hf.out, if_neg (by simp)]; rfl, HB.out⟩

/-! ### strings.HasPrefix -/
set_option maxHeartbeats 2000000 in
theorem hasprefix_lite (s p : List UInt8) (w : World) :
    Calls Try.prog 99 #[S8 s, S8 p] w fun e w' => e = .returned (.bool (beginsS s p)) ∧ w = w' := by
  by_cases h : p.length ≤ s.length
  · have hi : (p.length : Int) ≤ (s.length : Int) := by omega
    have hb := Lib.hid (show beginsS s p = (s.take p.length == p) by unfold beginsS; rw [decide_eq_true h, Bool.true_and])
    have hx := str_take s p.length
    go_enter Try.func99, Try.ntmps99
    go_wp2_with fail
    go_ret
    exact ⟨by rw [hb.out]; rfl, rfl⟩
  · have hi : (s.length : Int) < (p.length : Int) := by omega
    have hb := Lib.hid (show beginsS s p = false by unfold beginsS; rw [decide_eq_false h, Bool.false_and])
    go_enter Try.func99, Try.ntmps99
    go_wp2_with fail
    go_ret
    exact ⟨by rw [hb.out]; rfl, rfl⟩
theorem hasprefix_any (s p : List UInt8) (w : World) :
    Calls Try.prog 94 #[S8 s, S8 p] w fun e w' => e = .returned (.bool (beginsS s p)) ∧ w = w' := by
  have H := Lib.hid (hasprefix_lite s p w)
  go_enter Try.func94, Try.ntmps94
  go_wp2_with fail
  refine H.out.mono ?_
  rintro e w' ⟨rfl, rfl⟩
  go_wp2_with fail
  go_ret
  exact ⟨rfl, rfl⟩

/-! ### Prefix -/
set_option maxHeartbeats 2000000 in
theorem prefixc_any (bt bf bs g f i : Nat) (L : List (List UInt8)) (s : List UInt8) (v : Value) (xs : List Value) (W : World) (ht : W.cell? ⟨bt, 0, none⟩ = some (.pointer (some ⟨g, 0, none⟩))) (hf : W.cell? ⟨bf, 0, none⟩ = some (.int .i64 f)) (hs : W.cell? ⟨bs, 0, none⟩ = some (S8 s)) (hbs : bs < W.heap.size)
    (hT : Tab W g L v xs) (hi : f + i < L.length) (hl : L.length ≤ 4096) :
    Calls Try.prog 93 (#[.int .i64 i] ++ #[.pointer (some ⟨bt, 0, none⟩), .pointer (some ⟨bf, 0, none⟩), .pointer (some ⟨bs, 0, none⟩)]) W fun e w' => e = .returned (.bool (!beginsS (txt L (f + i)) s)) ∧ Below W.heap.size W w' := by
  have Ha := at_yes g (f + i) L v xs W hT hi hl
  rw [show ((f + i : Nat) : Int) = (f : Int) + (i : Int) by omega] at Ha
  have Ha := Lib.hid Ha
  clear hT
  go_enter Try.func93, Try.ntmps93
  go_wp2_with fail
  refine Ha.out.mono ?_
  rintro e w1 ⟨rfl, hb1⟩
  have hs1 := (hb1.cell (p := ⟨bs, 0, none⟩) hbs).trans hs
  have Hb := Lib.hid hb1
  clear hb1 hs
  go_wp2_with fail
  refine (hasprefix_any _ s w1).mono ?_
  rintro e w' ⟨rfl, rfl⟩
  go_wp2_with fail
  go_ret
  exact ⟨rfl, Hb.out⟩
end Go.Proofs.Ytegpoghgddjmaaa
