/- The walk of net.Turn. -/
import Derived.Test.YtegpoghgddjmaaaNetTake2
import Derived.BigRegion
namespace Go.Proofs.Ytegpoghgddjmaaa
open Go.RowKit
set_option maxRecDepth 100000

set_option maxHeartbeats 2000000 in
theorem nturn_no (g : Nat) (v : Value) (M : List Ms) (i k : Int) (w : World) (hN : OwnN w g v M) (hi : (i < 0 ∨ (M.length : Int) ≤ i) ∨ (k < 0 ∨ (M.length : Int) ≤ k)) :
    Calls Try.prog 47 #[.pointer (some ⟨g, 0, none⟩), .int .i64 i, .int .i64 k] w fun e w' => e = .returned (.bool false) ∧ w' = w := by
  obtain ⟨A0, c0, rfl⟩ := hN.form
  have c1 := hN.c
  go_enter Try.func47, Try.ntmps47
  go_wp2_with fail
  refine (nhas_any g A0 M.length c0 i _ hN.c).mono ?_
  rintro e w' ⟨rfl, rfl⟩
  by_cases h : 0 ≤ i ∧ i < (M.length : Int)
  · rw [decide_eq_true h]
    go_wp2_with fail
    refine (nhas_any g A0 M.length c0 k _ hN.c).mono ?_
    rintro e w' ⟨rfl, rfl⟩
    rw [decide_eq_false (by omega)]
    go_wp2_with fail
    go_ret
    exact ⟨rfl, rfl⟩
  · rw [decide_eq_false h]
    go_wp2_with fail
    go_ret
    exact ⟨rfl, rfl⟩
theorem rowM_set (M : List Ms) (i : Nat) (y : Ms) (hi : i < M.length) : (((rowM M).set (i * 3) (.bool y.a)).set (i * 3 + 1) (.int .i64 y.h)).set (i * 3 + 2) (.slice y.A y.n y.c) = rowM (M.set i y) := by
  induction M generalizing i with
  | nil => simp at hi
  | cons m M ih =>
    cases i with
    | zero => rfl
    | succ i =>
      have h := ih i (by simpa using hi)
      show (((m.cells ++ rowM M).set ((i + 1) * 3) _).set ((i + 1) * 3 + 1) _).set ((i + 1) * 3 + 2) _ = m.cells ++ rowM (M.set i y)
      have hm : m.cells.length = 3 := rfl
      rw [List.set_append_right _ _ (by omega), List.set_append_right _ _ (by omega), List.set_append_right _ _ (by omega), ← h, hm, show (i + 1) * 3 - 3 = i * 3 by omega, show (i + 1) * 3 + 1 - 3 = i * 3 + 1 by omega, show (i + 1) * 3 + 2 - 3 = i * 3 + 2 by omega]
theorem row_msg {w : World} {b q n c i : Nat} {M : List Ms} {m : Ms} (h : w.ownsRow b 54 3 (.slice (some ⟨q, 0, none⟩) n c) n (rowM M)) (hm : M[i]? = some m) :
    w.cell? ⟨q, i * 3, none⟩ = some (.bool m.a) ∧ w.cell? ⟨q, i * 3 + 1, none⟩ = some (.int .i64 m.h) ∧ w.cell? ⟨q, i * 3 + 2, none⟩ = some (.slice m.A m.n m.c) := by
  have hc : ∀ j u, (rowM M)[j]? = some u → w.cell? ((⟨q, 0, none⟩ : Addr).add j) = some u := World.ownsRow.cells h (g := q) rfl
  have k0 := hc _ _ (rowM_get hm 0 (by decide))
  have k1 := hc _ _ (rowM_get hm 1 (by decide))
  have k2 := hc _ _ (rowM_get hm 2 (by decide))
  rw [add_lit0] at k0 k1 k2
  exact ⟨k0, k1, k2⟩
theorem row_setm {w : World} {b q n c i : Nat} {M : List Ms} (h : w.ownsRow b 54 3 (.slice (some ⟨q, 0, none⟩) n c) n (rowM M)) (y : Ms) (hi : i < M.length) :
    (((w.setCell ⟨q, i * 3, none⟩ (.bool y.a)).setCell ⟨q, i * 3 + 1, none⟩ (.int .i64 y.h)).setCell ⟨q, i * 3 + 2, none⟩ (.slice y.A y.n y.c)).ownsRow b 54 3 (.slice (some ⟨q, 0, none⟩) n c) n (rowM (M.set i y)) := by
  rw [← rowM_set M i y hi]
  exact row_put (row_put (row_put h _) _) _
theorem set3_block (w : World) (q a b c k : Nat) (u v x : Value) (hk : k ≠ q) : (((w.setCell ⟨q, a, none⟩ u).setCell ⟨q, b, none⟩ v).setCell ⟨q, c, none⟩ x).heap[k]? = w.heap[k]? := by
  rw [Below.heap_setCell _ _ _ _ (show k ≠ q from hk), Below.heap_setCell _ _ _ _ (show k ≠ q from hk), Below.heap_setCell _ _ _ _ (show k ≠ q from hk)]
set_option maxHeartbeats 8000000 in
theorem nturn_yes (g : Nat) (v : Value) (M : List Ms) (i k : Nat) (x y : Ms) (w : World) (hN : OwnN w g v M) (hx : M[i]? = some x) (hy : M[k]? = some y) :
    Calls Try.prog 47 #[.pointer (some ⟨g, 0, none⟩), .int .i64 i, .int .i64 k] w fun e w' => e = .returned (.bool true) ∧ OwnN w' g v ((M.set i y).set k x) ∧ Grew w w' g v v := by
  have hil := (List.getElem?_eq_some_iff.1 hx).1
  have hkl := (List.getElem?_eq_some_iff.1 hy).1
  obtain ⟨q, c0, rfl, hgq, hqs, _⟩ := hN.cells hx
  have c1 := hN.c
  have hf := row_free hN.row
  have hcap := row_cap hN.row
  have r1 := row_setm hN.row y hil
  have r2 := row_setm r1 x (show k < (M.set i y).length by rw [List.length_set]; exact hkl)
  obtain ⟨x0, x1, x2⟩ := row_msg hN.row hx
  obtain ⟨y0, y1, y2⟩ := row_msg hN.row hy
  obtain ⟨z0, z1, z2⟩ := row_msg r1 (show (M.set i y)[k]? = some y by
    rw [List.getElem?_set]
    split
    · rfl
    · exact hy)
  have cz := cell_keep (set3_block w q (i * 3) (i * 3 + 1) (i * 3 + 2) g (.bool y.a) (.int .i64 y.h) (.slice y.A y.n y.c) (by omega)) hN.c
  have HN := Lib.hid hN
  have R2 := Lib.hid r2
  have fi0 := hf (i * 3)
  have fi1 := hf (i * 3 + 1)
  have fi2 := hf (i * 3 + 2)
  have fk0 := hf (k * 3)
  have fk1 := hf (k * 3 + 1)
  have fk2 := hf (k * 3 + 2)
  have Hxy := Lib.hid (And.intro hx hy)
  clear hf r1 r2 hx hy hN
  go_enter Try.func47, Try.ntmps47
  go_wp2_with fail
  refine (nhas_any g _ M.length c0 i _ HN.out.c).mono ?_
  rintro e w' ⟨rfl, rfl⟩
  rw [decide_eq_true (by omega)]
  go_wp2_with fail
  refine (nhas_any g _ M.length c0 k _ HN.out.c).mono ?_
  rintro e w' ⟨rfl, rfl⟩
  rw [decide_eq_true (by omega)]
  have hii : (i : Int) < (M.length : Int) := by omega
  have hki : (k : Int) < (M.length : Int) := by omega
  go_upto_region 3 with fail
  go_region
  have hblk : ∀ j, j ≠ q → ((((((w'.setCell ⟨q, i * 3, none⟩ (.bool y.a)).setCell ⟨q, i * 3 + 1, none⟩ (.int .i64 y.h)).setCell ⟨q, i * 3 + 2, none⟩ (.slice y.A y.n y.c)).setCell ⟨q, k * 3, none⟩ (.bool x.a)).setCell ⟨q, k * 3 + 1, none⟩ (.int .i64 x.h)).setCell ⟨q, k * 3 + 2, none⟩ (.slice x.A x.n x.c)).heap[j]? = w'.heap[j]? := fun j hj => (set3_block _ q _ _ _ j _ _ _ hj).trans (set3_block _ q _ _ _ j _ _ _ hj)
  have hsz : ((((((w'.setCell ⟨q, i * 3, none⟩ (.bool y.a)).setCell ⟨q, i * 3 + 1, none⟩ (.int .i64 y.h)).setCell ⟨q, i * 3 + 2, none⟩ (.slice y.A y.n y.c)).setCell ⟨q, k * 3, none⟩ (.bool x.a)).setCell ⟨q, k * 3 + 1, none⟩ (.int .i64 x.h)).setCell ⟨q, k * 3 + 2, none⟩ (.slice x.A x.n x.c)).heap.size = w'.heap.size := by simp [World.setCell]
  have hos : ((((((w'.setCell ⟨q, i * 3, none⟩ (.bool y.a)).setCell ⟨q, i * 3 + 1, none⟩ (.int .i64 y.h)).setCell ⟨q, i * 3 + 2, none⟩ (.slice y.A y.n y.c)).setCell ⟨q, k * 3, none⟩ (.bool x.a)).setCell ⟨q, k * 3 + 1, none⟩ (.int .i64 x.h)).setCell ⟨q, k * 3 + 2, none⟩ (.slice x.A x.n x.c)).os = w'.os ∧ ((((((w'.setCell ⟨q, i * 3, none⟩ (.bool y.a)).setCell ⟨q, i * 3 + 1, none⟩ (.int .i64 y.h)).setCell ⟨q, i * 3 + 2, none⟩ (.slice y.A y.n y.c)).setCell ⟨q, k * 3, none⟩ (.bool x.a)).setCell ⟨q, k * 3 + 1, none⟩ (.int .i64 x.h)).setCell ⟨q, k * 3 + 2, none⟩ (.slice x.A x.n x.c)).tape = w'.tape ∧ ((((((w'.setCell ⟨q, i * 3, none⟩ (.bool y.a)).setCell ⟨q, i * 3 + 1, none⟩ (.int .i64 y.h)).setCell ⟨q, i * 3 + 2, none⟩ (.slice y.A y.n y.c)).setCell ⟨q, k * 3, none⟩ (.bool x.a)).setCell ⟨q, k * 3 + 1, none⟩ (.int .i64 x.h)).setCell ⟨q, k * 3 + 2, none⟩ (.slice x.A x.n x.c)).output = w'.output := ⟨rfl, rfl, rfl⟩
  have R := R2.out
  clear R2 z0 z1 z2 cz
  generalize ((((((w'.setCell ⟨q, i * 3, none⟩ (.bool y.a)).setCell ⟨q, i * 3 + 1, none⟩ (.int .i64 y.h)).setCell ⟨q, i * 3 + 2, none⟩ (.slice y.A y.n y.c)).setCell ⟨q, k * 3, none⟩ (.bool x.a)).setCell ⟨q, k * 3 + 1, none⟩ (.int .i64 x.h)).setCell ⟨q, k * 3 + 2, none⟩ (.slice x.A x.n x.c)) = W2 at *
  have HB := Lib.hid (And.intro hblk (And.intro hsz (And.intro hos R)))
  clear hblk hsz hos R x0 x1 x2 y0 y1 y2 fi0 fi1 fi2 fk0 fk1 fk2 c1
  go_wp2_with fail
  go_ret
  obtain ⟨hblk, hsz, ⟨ho1, ho2, ho3⟩, R⟩ := HB.out
  have hmem : ∀ m ∈ (M.set i y).set k x, m ∈ M := fun m hm => by
    rcases List.mem_or_eq_of_mem_set hm with hm | rfl
    · rcases List.mem_or_eq_of_mem_set hm with hm | rfl
      · exact hm
      · exact List.mem_of_getElem? Hxy.out.2
    · exact List.mem_of_getElem? Hxy.out.1
  have hlen : ((M.set i y).set k x).length = M.length := by rw [List.length_set, List.length_set]
  have hO : OwnN W2 g (.slice (some ⟨q, 0, none⟩) M.length c0) ((M.set i y).set k x) := by
    refine ⟨cell_keep (hblk g (by omega)) HN.out.c, frozen_keep (hblk g (by omega)) HN.out.f, by rw [hsz]; exact HN.out.lt, by rw [hlen]; exact R, fun m hm => ?_, fun m hm => HN.out.far m (hmem m hm)⟩
    refine ⟨(HN.out.data m (hmem m hm)).1.other (fun hp b off e _ => hblk b (fun eb => (HN.out.far m (hmem m hm) hp b off e).2 (by rw [eb]; rfl))) (by rw [hsz]; exact Nat.le_refl _), (HN.out.data m (hmem m hm)).2⟩
  have hG : Grew w' W2 g (.slice (some ⟨q, 0, none⟩) M.length c0) (.slice (some ⟨q, 0, none⟩) M.length c0) :=
    ⟨ho1, ho2, ho3, by rw [hsz]; exact Nat.le_refl _, fun j _ _ hj => hblk j (fun e => hj (by rw [e]; rfl)), .inl rfl⟩
  exact ⟨rfl, hO.new_ (nd (nr W2)), hG.trans (Grew.of_below (nd (nr W2)) _ _)⟩
end Go.Proofs.Ytegpoghgddjmaaa
