/- The walk of slices.Delete at messages: the last one. -/
import Derived.Test.YtegpoghgddjmaaaNetDouble
import Derived.Deep.RegionLaw
import Derived.Lib.SliceRun
namespace Go.Proofs.Ytegpoghgddjmaaa
open Go.RowKit
set_option maxRecDepth 100000

theorem clear_msg (w : World) (q o c ty : Nat) (hc : ∀ j, j < 3 → (w.cell? ⟨q, o + j, none⟩).isSome = true) (hf : ∀ j, j < 3 → w.frozen? ⟨q, o + j, none⟩ = false) :
    (Builtin.clear_ #[60] ty #[.slice (some ⟨q, o, none⟩) 1 c]).run Try.prog w = .ok (.tuple #[]) (w.setCells q o [.bool false, .int .i64 0, .slice none 0 0]) := by
  have hzc : (Builtin.zeroCells (MV false 0 none 0 0).cells 1).toList = [.bool false, .int .i64 0, .slice none 0 0] := by kernel_rfl
  have hst := run_storeCells_cells (P := Try.prog) q o [.bool false, .int .i64 0, .slice none 0 0] 0 w (by simpa using hc) (by simpa using hf) (by intro v hv'; simp at hv'; rcases hv' with rfl | rfl | rfl <;> rfl)
  simp only [Nat.add_zero] at hst
  simp [Builtin.clear_, run_underlying Try.underlying60, hzc, hst]
set_option maxHeartbeats 4000000 in
theorem ndel_last (q i cap : Nat) (w : World) (hc : i + 1 ≤ cap) (hm : cap ≤ 9223372036854775807) (c0 c1 c2 : Value) (k0 : w.cell? ⟨q, i * 3, none⟩ = some c0) (k1 : w.cell? ⟨q, i * 3 + 1, none⟩ = some c1) (k2 : w.cell? ⟨q, i * 3 + 2, none⟩ = some c2)
    (f0 : w.frozen? ⟨q, i * 3, none⟩ = false) (f1 : w.frozen? ⟨q, i * 3 + 1, none⟩ = false) (f2 : w.frozen? ⟨q, i * 3 + 2, none⟩ = false) :
    Calls Try.prog 86 #[.slice (some ⟨q, 0, none⟩) (i + 1) cap, .int .i64 i, .int .i64 ((i : Int) + 1)] w fun e w' => e = .returned (.slice (some ⟨q, 0, none⟩) i cap) ∧ w' = ((w.drew.setCell ⟨q, i * 3, none⟩ (.bool false)).setCell ⟨q, i * 3 + 1, none⟩ (.int .i64 0)).setCell ⟨q, i * 3 + 2, none⟩ (.slice none 0 0) := by
  have hne : ((i : Int) == (i : Int) + 1) = false := by rw [beq_eq_false_iff_ne]; omega
  have hci : (i : Int) + 1 ≤ (cap : Int) := by omega
  have hcl := fun c => clear_msg w.drew q (i * 3) c 0 (fun j hj => by
      match j, hj with
      | 0, _ => show (w.cell? ⟨q, i * 3, none⟩).isSome = true; rw [k0]; rfl
      | 1, _ => show (w.cell? ⟨q, i * 3 + 1, none⟩).isSome = true; rw [k1]; rfl
      | 2, _ => show (w.cell? ⟨q, i * 3 + 2, none⟩).isSome = true; rw [k2]; rfl) (fun j hj => by
      match j, hj with
      | 0, _ => exact f0
      | 1, _ => exact f1
      | 2, _ => exact f2)
  by_cases hcap : cap = i + 1
  · subst hcap
    go_enter Try.func86, Try.ntmps86
    go_upto_region 5 with fail
    go_region
    go_wp2_with fail
    go_ret
    exact ⟨rfl, rfl⟩
  · go_enter Try.func86, Try.ntmps86
    go_upto_region 5 with fail
    go_region
    go_wp2_with fail
    go_ret
    exact ⟨rfl, rfl⟩
end Go.Proofs.Ytegpoghgddjmaaa
