/- The walk of net.Look. -/
import Derived.Test.YtegpoghgddjmaaaNet2
namespace Go.Proofs.Ytegpoghgddjmaaa
open Go.RowKit
set_option maxRecDepth 100000

theorem rowM_get {M : List Ms} {i : Nat} {m : Ms} (h : M[i]? = some m) (k : Nat) (hk : k < 3) : (rowM M)[i * 3 + k]? = m.cells[k]? := by
  induction M generalizing i with
  | nil => cases h
  | cons x M ih =>
    have hx : x.cells.length = 3 := rfl
    show (x.cells ++ rowM M)[i * 3 + k]? = _
    cases i with
    | zero =>
      obtain rfl : x = m := by simpa using h
      rw [List.getElem?_append_left (by omega)]
      congr 1
      omega
    | succ i =>
      rw [List.getElem?_append_right (by omega), hx, show (i + 1) * 3 + k - 3 = i * 3 + k by omega]
      exact ih (by simpa using h)
theorem OwnN.cells {w : World} {g : Nat} {v : Value} {M : List Ms} (h : OwnN w g v M) {i : Nat} {m : Ms} (hm : M[i]? = some m) : ∃ q c, v = .slice (some ⟨q, 0, none⟩) M.length c ∧ g < q ∧ q < w.heap.size ∧ w.cell? ⟨q, i * 3, none⟩ = some (.bool m.a) ∧ w.cell? ⟨q, i * 3 + 1, none⟩ = some (.int .i64 m.h) ∧ w.cell? ⟨q, i * 3 + 2, none⟩ = some (.slice m.A m.n m.c) := by
  have hp : 0 < M.length := by have := (List.getElem?_eq_some_iff.1 hm).1; omega
  obtain ⟨q, c, rfl, hq1, hq2⟩ := World.ownsRow.form h.row hp
  have hc : ∀ j u, (rowM M)[j]? = some u → w.cell? ((⟨q, 0, none⟩ : Addr).add j) = some u := World.ownsRow.cells h.row (g := q) rfl
  have he : ∀ j, (⟨q, 0, none⟩ : Addr).add j = ⟨q, j, none⟩ := fun j => by unfold Addr.add; split <;> simp_all
  have k0 := hc _ _ (rowM_get hm 0 (by decide))
  have k1 := hc _ _ (rowM_get hm 1 (by decide))
  have k2 := hc _ _ (rowM_get hm 2 (by decide))
  rw [he] at k0 k1 k2
  exact ⟨q, c, rfl, by omega, hq2, k0, k1, k2⟩
def NLookYes (m : Ms) (w : World) (e : Ending) (w' : World) : Prop :=
  ∃ A' c', e = .returned (.tuple #[MV m.a m.h A' m.n c', .bool true]) ∧ Own w' w.heap.size (.slice A' m.l.length c') m.l ∧ Below w.heap.size w w'
set_option maxHeartbeats 2000000 in
theorem nlook_no (g : Nat) (v : Value) (M : List Ms) (i : Int) (w : World) (hN : OwnN w g v M) (hi : i < 0 ∨ (M.length : Int) ≤ i) :
    Calls Try.prog 49 #[.pointer (some ⟨g, 0, none⟩), .int .i64 i] w fun e w' => e = .returned (.tuple #[MV false 0 none 0 0, .bool false]) ∧ Below w.heap.size w w' := by
  have Hrow : ∃ A0 c0, v = .slice A0 M.length c0 := by
    rcases hN.row.2 with ⟨h1, h2⟩ | ⟨q, cap, cur, h1, _⟩
    · exact ⟨none, 0, by rw [h1, h2]⟩
    · exact ⟨_, _, h1⟩
  obtain ⟨A0, c0, rfl⟩ := Hrow
  have hb1 : Below w.heap.size w (w.alloc (.cells #[.bool false, .int .i64 0, .slice none 0 0] 54)) := na (nr w) _
  have hN1 := hN.new_ hb1
  go_enter Try.func49, Try.ntmps49
  go_wp2_with fail
  refine (nhas_any g A0 M.length c0 i _ hN1.c).mono ?_
  rintro e w' ⟨rfl, rfl⟩
  rw [decide_eq_false (by omega)]
  go_wp2_with fail
  exact bodyPost_ret (v := .tuple #[MV false 0 none 0 0, .bool false]) (by simp [results, Try.results49, go_sem]) rfl ⟨rfl, hb1⟩
set_option maxHeartbeats 4000000 in
theorem nlook_yes (g : Nat) (v : Value) (M : List Ms) (i : Nat) (m : Ms) (w : World) (hN : OwnN w g v M) (hm : M[i]? = some m) (hl : m.n ≤ 140737488355328) :
    Calls Try.prog 49 #[.pointer (some ⟨g, 0, none⟩), .int .i64 i] w (NLookYes m w) := by
  have hlt := (List.getElem?_eq_some_iff.1 hm).1
  have hb1 : Below w.heap.size w (w.alloc (.cells #[.bool false, .int .i64 0, .slice none 0 0] 54)) := na (nr w) _
  have hr1 := MC.made w false 0 (.slice none 0 0) 54
  have hs1 : (w.alloc (.cells #[.bool false, .int .i64 0, .slice none 0 0] 54)).heap.size = w.heap.size + 1 := by simp
  have hN1 := hN.new_ hb1
  obtain ⟨q, c, rfl, hgq, hqs, k0, k1, k2⟩ := hN1.cells hm
  have c1 := hN1.c
  have hdat := hN1.data m (List.mem_of_getElem? hm)
  go_enter Try.func49, Try.ntmps49
  go_wp2_with fail
  refine (nhas_any g _ M.length c i _ hN1.c).mono ?_
  rintro e w' ⟨rfl, rfl⟩
  rw [decide_eq_true (by omega)]
  have HD := Lib.hid (And.intro hb1 (And.intro hdat hs1))
  have hltI : (i : Int) < (M.length : Int) := by omega
  clear hb1 hdat hN hN1 hs1
  generalize (w.alloc (.cells #[.bool false, .int .i64 0, .slice none 0 0] 54)) = W1 at *
  have HR := Lib.hid hr1
  clear hr1
  go_wp2_with fail
  refine (nclone_any m.a m.h m.A m.n m.c m.l W1 HD.out.2.1.1 HD.out.2.1.2.1 hl HD.out.2.1.2.2).mono ?_
  rintro e W3 ⟨A', c', rfl, ho, _, hb3⟩
  obtain ⟨q0, q1, q2, s0, s1, s2⟩ := HR.out.keep (hb3.block w.heap.size (by have := HD.out.2.2; omega))
  have HO := Lib.hid (And.intro ho hb3)
  clear ho hb3 k0 k1 k2 c1
  go_wp2_with fail
  have z0 : (W3.setCell ⟨w.heap.size, 0, none⟩ (.bool m.a)).cell? ⟨w.heap.size, 0, none⟩ = some (.bool m.a) := World.cell?_setCell_same _ _ _ q0
  have z1 : ((W3.setCell ⟨w.heap.size, 0, none⟩ (.bool m.a)).setCell ⟨w.heap.size, 1, none⟩ (.int .i64 m.h)).cell? ⟨w.heap.size, 1, none⟩ = some (.int .i64 m.h) := World.cell?_setCell_same _ _ _ ((World.cell?_setCell_other _ _ _ _ (by simp)).trans q1)
  have z2 : (((W3.setCell ⟨w.heap.size, 0, none⟩ (.bool m.a)).setCell ⟨w.heap.size, 1, none⟩ (.int .i64 m.h)).setCell ⟨w.heap.size, 2, none⟩ (.slice A' m.n c')).cell? ⟨w.heap.size, 2, none⟩ = some (.slice A' m.n c') := World.cell?_setCell_same _ _ _ ((World.cell?_setCell_other _ _ _ _ (by simp)).trans ((World.cell?_setCell_other _ _ _ _ (by simp)).trans q2))
  refine bodyPost_ret (v := .tuple #[MV m.a m.h A' m.n c', .bool true]) (by simp [results, Try.results49, go_sem, z0, z1, z2]) rfl ?_
  have hs := HD.out.2.2
  have hown : ∀ (W : World) (b k : Nat) (v : Value), b < W1.heap.size → Own W W1.heap.size (.slice A' m.l.length c') m.l → Own (W.setCell ⟨b, k, none⟩ v) W1.heap.size (.slice A' m.l.length c') m.l := fun W b k v hb h => ownsRow_setCell_below h hb v
  refine ⟨A', c', rfl, Own.rebase (base' := w.heap.size) (hown _ _ _ _ (by omega) (hown _ _ _ _ (by omega) (hown _ _ _ _ (by omega) HO.out.1))) (by omega), ?_⟩
  have hb := HD.out.1.trans (HO.out.2.mono (by omega))
  exact ((hb.setCell (Nat.le_refl _) _).setCell (Nat.le_refl _) _).setCell (Nat.le_refl _) _
end Go.Proofs.Ytegpoghgddjmaaa
