/- The walk of limnographlaw23's awake. -/
import Derived.Test.YtegpoghgddjmaaaNetTake
import Derived.Test.YtegpoghgddjmaaaNetBytes
namespace Go.Proofs.Ytegpoghgddjmaaa
open Go.RowKit
set_option maxRecDepth 100000

theorem Grew.belowN {w w' : World} {g B : Nat} {v v' : Value} {M : List Ms} (h : Grew w w' g v v') (hN : OwnN w g v M) (hB : B ≤ g) : Below B w w' := by
  refine ⟨h.os, h.tape, h.output, h.size, fun k hk => h.block k (by have := hN.lt; omega) (by omega) (fun e => ?_)⟩
  have := (World.ownsRow.lt hN.row k e).1
  omega
theorem Grew.newN {w0 w w' : World} {g B : Nat} {v v' : Value} {M : List Ms} (h : Grew w w' g v v') (hN : OwnN w g v M) (hB : B ≤ g) (h0 : Below B w0 w) : Below B w0 w' := h0.trans (h.belowN hN hB)
theorem belowN {w0 w w' : World} {g B : Nat} {v : Value} {M : List Ms} (h : Below w.heap.size w w') (hN : OwnN w g v M) (hB : B ≤ g) (h0 : Below B w0 w) : Below B w0 w' := h0.trans (h.mono (by have := hN.lt; omega))
theorem awake23_form : mform true 3 [] = [1, 3] := by decide +kernel
set_option maxHeartbeats 2000000 in
theorem awake23_any (w : World) : Calls Try.prog 38 #[] w fun e w' => e = .returned (.bool true) ∧ Below w.heap.size w w' := by
  go_enter Try.func38, Try.ntmps38
  go_wp2_with fail
  refine (nnew_any w).mono ?_
  rintro e w1 ⟨rfl, hN1, hB1⟩
  have H1 := Lib.hid (And.intro hN1 hB1)
  clear hN1 hB1
  generalize hg : w.heap.size = g at H1 ⊢
  go_wp2_with fail
  refine (nsend_yes g _ [] true 3 none 0 0 [] w1 H1.out.1 (Bytes.nil_ _) rfl (fun _ => rfl) (by decide) (by decide) (by decide)).mono ?_
  rintro e w2 ⟨rfl, v2, A2, c2, hN2, hG2⟩
  have H2 := Lib.hid (And.intro hN2 (hG2.newN H1.out.1 (Nat.le_refl _) H1.out.2))
  clear hN2 hG2 H1
  go_wp2_with fail
  refine (nsend_no g _ _ false 3 none 0 0 w2 H2.out.1 (by decide) (.inr (by decide))).mono ?_
  rintro e w3 ⟨rfl, hN3, hB3⟩
  have H3 := Lib.hid (And.intro hN3 (belowN hB3 H2.out.1 (Nat.le_refl _) H2.out.2))
  clear hN3 hB3 H2
  have hv := H3.out.1.cells (i := 0) rfl
  obtain ⟨q, cap, rfl, hgq, -⟩ := hv
  go_wp2_with fail
  refine (ntake_last g q cap [] ⟨true, 3, A2, 0, c2, []⟩ w3 H3.out.1 (Nat.zero_le _)).mono ?_
  rintro e w4 ⟨A4, c4, rfl, hN4, hG4, hby, hnil⟩
  have hb4 := na (nr w4) (.cells #[.bool true, .int .i64 3, .slice A4 0 c4] 54)
  have hm4 := MC.made w4 true 3 (.slice A4 0 c4) 54
  have H4 := Lib.hid (And.intro (hN4.new_ hb4) (And.intro (belowN hb4 hN4 (Nat.le_refl _) (hG4.newN H3.out.1 (Nat.le_refl _) H3.out.2)) (And.intro hnil hm4)))
  clear hN4 hG4 hby hnil H3 hb4 hm4
  go_wp2_with fail
  refine (ntake_no g _ [] 0 _ H4.out.1 (by simp)).mono ?_
  rintro e w5 ⟨rfl, hB5⟩
  have hN5 := H4.out.1.new_ hB5
  have hb6 := na (nr w5) (.cells #[.bool false, .int .i64 0, .slice none 0 0] 54)
  have hm5 := (H4.out.2.2.2.keep (hB5.block _ (by simp))).keep (hb6.block w4.heap.size (Nat.lt_of_lt_of_le (by simp) hB5.size))
  obtain ⟨p0, p1, p2, -, -, -⟩ := hm5
  have H5 := Lib.hid (And.intro (hN5.new_ hb6) (And.intro (belowN hb6 hN5 (Nat.le_refl _) (belowN hB5 H4.out.1 (Nat.le_refl _) H4.out.2.1)) (And.intro H4.out.2.2.1 (MC.keep H4.out.2.2.2 (hB5.block _ (by simp))))))
  have hsz : w4.heap.size < (w5.alloc (.cells #[.bool false, .int .i64 0, .slice none 0 0] 54)).heap.size := Nat.lt_of_lt_of_le (by simp) (Nat.le_trans hB5.size hb6.size)
  clear H4 hB5 hN5 hb6
  go_wp2_with fail
  refine (nbytes_any true 3 A4 0 c4 [] _ (Bytes.nil_ _) rfl (by decide)).mono ?_
  rintro e w6 ⟨hB6, ⟨h, -⟩ | ⟨-, A6, c6, rfl, ho6⟩⟩
  · cases h
  rw [awake23_form] at ho6 ⊢
  generalize (w5.alloc (.cells #[.bool false, .int .i64 0, .slice none 0 0] 54)) = W5 at *
  have q1 := (hB6.cell (p := ⟨w4.heap.size, 1, none⟩) hsz).trans p1
  have r1 := run_str w6 _ A6 2 c6 [1, 3] ho6.bytes.1 rfl
  have H6 := Lib.hid (belowN hB6 H5.out.1 (Nat.le_refl _) H5.out.2.1)
  clear ho6 hB6 H5 p0 p1 p2 hsz
  go_wp2_with fail
  go_ret
  exact ⟨rfl, by rw [hg]; exact H6.out⟩
end Go.Proofs.Ytegpoghgddjmaaa
