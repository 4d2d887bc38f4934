/- The walks of package net: right, clone, Len, has. -/
import Derived.Test.YtegpoghgddjmaaaBack
namespace Go.Proofs.Ytegpoghgddjmaaa
open Go.RowKit
set_option maxRecDepth 100000

/-- A message as a value. -/
abbrev MV (a : Bool) (h : Int) (A : Option Addr) (n c : Nat) : Value := .agg #[.bool a, .int .i64 h, .slice A n c]
/-- May a message be sent? -/
def rightS (a : Bool) (h : Int) (n : Nat) : Bool := decide (0 ≤ h) && decide (h ≤ 4503599627370497) && decide (n ≤ 65536) && ((a && decide (n = 0)) || (!a && decide (h = 0)))
set_option maxHeartbeats 1000000 in
theorem right_any (a : Bool) (h : Int) (A : Option Addr) (n c : Nat) (w : World) (hn : n ≤ 9223372036854775807) : Calls Try.prog 83 #[MV a h A n c] w fun e w' => e = .returned (.bool (rightS a h n)) ∧ Below w.heap.size w w' := by
  by_cases h0 : h < 0
  · have hr : rightS a h n = false := by simp [rightS, show ¬ 0 ≤ h by omega]
    rw [hr]
    clear hr
    go_enter Try.func83, Try.ntmps83
    go_wp2
    go_ret
    exact ⟨rfl, na (nr w) _⟩
  have h0' : (0 : Int) ≤ h := by omega
  by_cases h1 : 4503599627370497 < h
  · have hr : rightS a h n = false := by simp [rightS, show ¬ h ≤ 4503599627370497 by omega]
    rw [hr]
    clear hr
    go_enter Try.func83, Try.ntmps83
    go_wp2
    go_ret
    exact ⟨rfl, na (nr w) _⟩
  have h1' : h ≤ 4503599627370497 := by omega
  by_cases h2 : 65536 < n
  · have hr : rightS a h n = false := by simp [rightS, show ¬ n ≤ 65536 by omega]
    rw [hr]
    clear hr
    have h2' : (65536 : Int) < (n : Int) := by omega
    go_enter Try.func83, Try.ntmps83
    go_wp2
    go_ret
    exact ⟨rfl, na (nr w) _⟩
  have h2' : (n : Int) ≤ 65536 := by omega
  cases a
  · have hr : rightS false h n = (h == 0) := by
      rw [Bool.eq_iff_iff, beq_iff_eq]
      simp [rightS]
      omega
    rw [hr]
    clear hr
    go_enter Try.func83, Try.ntmps83
    go_wp2
    go_ret
    exact ⟨rfl, na (nr w) _⟩
  · have hr : rightS true h n = ((n : Int) == 0) := by
      rw [Bool.eq_iff_iff, beq_iff_eq]
      simp [rightS]
      omega
    rw [hr]
    clear hr
    by_cases hz : (n : Int) = 0
    · have hzb : ((n : Int) == 0) = true := by rw [beq_iff_eq]; exact hz
      rw [hzb]
      go_enter Try.func83, Try.ntmps83
      go_wp2
      go_ret
      exact ⟨rfl, na (nr w) _⟩
    · have hzb : ((n : Int) == 0) = false := by rw [beq_eq_false_iff_ne]; exact hz
      rw [hzb]
      go_enter Try.func83, Try.ntmps83
      go_wp2
      go_ret
      exact ⟨rfl, na (nr w) _⟩

/-- The three cells of a message at block q, that may be written. -/
structure MC (W : World) (q : Nat) (a : Bool) (h : Int) (v : Value) : Prop where
  c0 : W.cell? ⟨q, 0, none⟩ = some (.bool a)
  c1 : W.cell? ⟨q, 1, none⟩ = some (.int .i64 h)
  c2 : W.cell? ⟨q, 2, none⟩ = some v
  f0 : W.frozen? ⟨q, 0, none⟩ = false
  f1 : W.frozen? ⟨q, 1, none⟩ = false
  f2 : W.frozen? ⟨q, 2, none⟩ = false
theorem MC.made (W : World) (a : Bool) (h : Int) (v : Value) (t : TypeId) : MC (W.alloc (.cells #[.bool a, .int .i64 h, v] t)) W.heap.size a h v :=
  ⟨cell_of_row _ _ _ _ _ _ (heap_alloc_new W _), cell_of_row _ _ _ _ _ _ (heap_alloc_new W _), cell_of_row _ _ _ _ _ _ (heap_alloc_new W _), World.frozen?_alloc_new W _ _ 0, World.frozen?_alloc_new W _ _ 1, World.frozen?_alloc_new W _ _ 2⟩
theorem MC.keep {W W' : World} {q : Nat} {a : Bool} {h : Int} {v : Value} (k : MC W q a h v) (hb : W'.heap[q]? = W.heap[q]?) : MC W' q a h v :=
  ⟨(World.cell?_of_block hb).trans k.c0, (World.cell?_of_block hb).trans k.c1, (World.cell?_of_block hb).trans k.c2, (World.frozen?_of_block hb).trans k.f0, (World.frozen?_of_block hb).trans k.f1, (World.frozen?_of_block hb).trans k.f2⟩
def NClonePost (a : Bool) (h : Int) (A : Option Addr) (n : Nat) (l : List UInt8) (w : World) (e : Ending) (w' : World) : Prop :=
  ∃ A' c', e = .returned (MV a h A' n c') ∧ Own w' w.heap.size (.slice A' l.length c') l ∧ (A' = none → A = none) ∧ Below w.heap.size w w'
set_option maxHeartbeats 1000000 in
theorem nclone_any (a : Bool) (h : Int) (A : Option Addr) (n c : Nat) (l : List UInt8) (w : World) (hA : Bytes w w.heap.size A l) (hn : l.length = n) (hl : n ≤ 140737488355328) (hcap : A = none → c = 0) :
    Calls Try.prog 84 #[MV a h A n c] w (NClonePost a h A n l w) := by
  have hb2 : Below w.heap.size w ((w.alloc (.cells #[.bool a, .int .i64 h, .slice A n c] 54)).alloc (.cells #[.bool false, .int .i64 0, .slice none 0 0] 54)) := na (na (nr w) _) _
  have hA2 : Bytes ((w.alloc (.cells #[.bool a, .int .i64 h, .slice A n c] 54)).alloc (.cells #[.bool false, .int .i64 0, .slice none 0 0] 54)) ((w.alloc (.cells #[.bool a, .int .i64 h, .slice A n c] 54)).alloc (.cells #[.bool false, .int .i64 0, .slice none 0 0] 54)).heap.size A l := (hA.below hb2).more hb2.size
  go_enter Try.func84, Try.ntmps84
  go_wp2_with fail
  have hm1 := (MC.made w a h (.slice A n c) 54).keep ((na (nr (w.alloc (.cells #[.bool a, .int .i64 h, .slice A n c] 54))) (.cells #[.bool false, .int .i64 0, .slice none 0 0] 54)).block w.heap.size (by simp))
  have hm2 := MC.made (w.alloc (.cells #[.bool a, .int .i64 h, .slice A n c] 54)) false 0 (.slice none 0 0) 54
  have hs2 : (w.alloc (.cells #[.bool a, .int .i64 h, .slice A n c] 54)).heap.size = w.heap.size + 1 := by simp
  have hs3 : ((w.alloc (.cells #[.bool a, .int .i64 h, .slice A n c] 54)).alloc (.cells #[.bool false, .int .i64 0, .slice none 0 0] 54)).heap.size = w.heap.size + 2 := by simp
  rw [hs2] at hm2
  generalize ((w.alloc (.cells #[.bool a, .int .i64 h, .slice A n c] 54)).alloc (.cells #[.bool false, .int .i64 0, .slice none 0 0] 54)) = W2 at *
  refine (clone_any A n c l W2 hA2 hn hl hcap).mono ?_
  rintro e w3 ⟨A', c', rfl, ho, hnn, hb3⟩
  obtain ⟨p0, p1, p2, r0, r1, r2⟩ := hm1.keep (hb3.block w.heap.size (by omega))
  obtain ⟨q0, q1, q2, s0, s1, s2⟩ := hm2.keep (hb3.block (w.heap.size + 1) (by omega))
  have H3 := Lib.hid (And.intro ho (And.intro hnn (And.intro (hb2.trans (hb3.mono hb2.size)) hs3)))
  have Hl := Lib.hid hn
  clear hm1 hm2 hs2 hs3 hb2 hA2 hA ho hnn hb3 hn
  go_wp2_with fail
  have hne : w.heap.size + 1 ≠ w.heap.size := by omega
  have k0 : ((w3.setCell ⟨w.heap.size, 2, none⟩ (.slice A' n c')).setCell ⟨w.heap.size + 1, 0, none⟩ (.bool a)).cell? ⟨w.heap.size + 1, 0, none⟩ = some (.bool a) :=
    World.cell?_setCell_same _ _ _ ((World.cell?_setCell_other _ _ _ _ (by simp)).trans q0)
  have k1 : (((w3.setCell ⟨w.heap.size, 2, none⟩ (.slice A' n c')).setCell ⟨w.heap.size + 1, 0, none⟩ (.bool a)).setCell ⟨w.heap.size + 1, 1, none⟩ (.int .i64 h)).cell? ⟨w.heap.size + 1, 1, none⟩ = some (.int .i64 h) :=
    World.cell?_setCell_same _ _ _ ((World.cell?_setCell_other _ _ _ _ (by simp)).trans ((World.cell?_setCell_other _ _ _ _ (by simp)).trans q1))
  have k2 : ((((w3.setCell ⟨w.heap.size, 2, none⟩ (.slice A' n c')).setCell ⟨w.heap.size + 1, 0, none⟩ (.bool a)).setCell ⟨w.heap.size + 1, 1, none⟩ (.int .i64 h)).setCell ⟨w.heap.size + 1, 2, none⟩ (.slice A' n c')).cell? ⟨w.heap.size + 1, 2, none⟩ = some (.slice A' n c') :=
    World.cell?_setCell_same _ _ _ ((World.cell?_setCell_other _ _ _ _ (by simp)).trans ((World.cell?_setCell_other _ _ _ _ (by simp)).trans ((World.cell?_setCell_other _ _ _ _ (by simp)).trans q2)))
  refine bodyPost_ret (v := MV a h A' n c') (by simp [results, Try.results84, go_sem, k0, k1, k2]) rfl ?_
  have hb3 := H3.out.2.2.1
  have ho := H3.out.1
  have hs := H3.out.2.2.2
  have hown : ∀ (W : World) (b k : Nat) (v : Value), b < W2.heap.size → Own W W2.heap.size (.slice A' l.length c') l → Own (W.setCell ⟨b, k, none⟩ v) W2.heap.size (.slice A' l.length c') l := fun W b k v hb h => ownsRow_setCell_below h hb v
  refine ⟨A', c', rfl, Own.rebase (base' := w.heap.size) (hown _ _ _ _ (by omega) (hown _ _ _ _ (by omega) (hown _ _ _ _ (by omega) (hown _ _ _ _ (by omega) ho)))) (by omega), H3.out.2.1, ?_⟩
  exact (((hb3.setCell (Nat.le_refl _) _).setCell (show w.heap.size ≤ w.heap.size + 1 by omega) _).setCell (show w.heap.size ≤ w.heap.size + 1 by omega) _).setCell (show w.heap.size ≤ w.heap.size + 1 by omega) _
theorem nlen_any (g : Nat) (A : Option Addr) (n c : Nat) (w : World) (hc : w.cell? ⟨g, 0, none⟩ = some (.slice A n c)) : Calls Try.prog 42 #[.pointer (some ⟨g, 0, none⟩)] w fun e w' => w' = w ∧ e = .returned (.int .i64 (n : Nat)) := by
  go_enter Try.func42, Try.ntmps42
  go_wp2
  go_ret
  exact ⟨rfl, rfl⟩
theorem nhas_any (g : Nat) (A : Option Addr) (n c : Nat) (i : Int) (w : World) (hc : w.cell? ⟨g, 0, none⟩ = some (.slice A n c)) : Calls Try.prog 85 #[.pointer (some ⟨g, 0, none⟩), .int .i64 i] w fun e w' => w' = w ∧ e = .returned (.bool (decide (0 ≤ i ∧ i < (n : Int)))) := by
  by_cases h0 : 0 ≤ i
  · by_cases h1 : i < (n : Int)
    · rw [decide_eq_true ⟨h0, h1⟩]
      go_enter Try.func85, Try.ntmps85
      go_wp2
      go_ret
      exact ⟨rfl, rfl⟩
    · rw [decide_eq_false (fun h => h1 h.2)]
      have h1' : (n : Int) ≤ i := by omega
      go_enter Try.func85, Try.ntmps85
      go_wp2
      go_ret
      exact ⟨rfl, rfl⟩
  · rw [decide_eq_false (fun h => h0 h.1)]
    have h0' : i < 0 := by omega
    go_enter Try.func85, Try.ntmps85
    go_wp2
    go_ret
    exact ⟨rfl, rfl⟩
end Go.Proofs.Ytegpoghgddjmaaa
