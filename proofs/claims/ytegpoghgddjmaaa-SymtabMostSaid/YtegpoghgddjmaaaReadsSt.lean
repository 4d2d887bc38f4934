/- The state of PackReads' rounds: the answer's cells, the word's cells, the reader; what the reader hands, beside the document's answer. -/
import Derived.Test.YtegpoghgddjmaaaBack
import Derived.Test.YtegpoghgddjmaaaRefFix
namespace Go.Proofs.Ytegpoghgddjmaaa
open Go.RowKit
set_option maxRecDepth 100000

/-- The cells of an answer at block q. -/
structure GS (W : World) (q : Nat) (V N : Nat) (E : Int) : Prop where
  c0 : W.cell? ⟨q, 0, none⟩ = some (.int .u64 V)
  c1 : W.cell? ⟨q, 1, none⟩ = some (.int .i64 N)
  c2 : W.cell? ⟨q, 2, none⟩ = some (.int .i64 E)
  f0 : W.frozen? ⟨q, 0, none⟩ = false
  f1 : W.frozen? ⟨q, 1, none⟩ = false
  f2 : W.frozen? ⟨q, 2, none⟩ = false
theorem GS.s0 {W : World} {q V N : Nat} {E : Int} (h : GS W q V N E) (k : Nat) : GS (W.setCell ⟨q, 0, none⟩ (.int .u64 k)) q k N E :=
  ⟨World.cell?_setCell_same _ _ _ h.c0, by rw [World.cell?_setCell_other _ _ _ _ (by simp)]; exact h.c1, by rw [World.cell?_setCell_other _ _ _ _ (by simp)]; exact h.c2, by rw [World.frozen?_setCell]; exact h.f0, by rw [World.frozen?_setCell]; exact h.f1, by rw [World.frozen?_setCell]; exact h.f2⟩
theorem GS.s1 {W : World} {q V N : Nat} {E : Int} (h : GS W q V N E) (k : Nat) : GS (W.setCell ⟨q, 1, none⟩ (.int .i64 k)) q V k E :=
  ⟨by rw [World.cell?_setCell_other _ _ _ _ (by simp)]; exact h.c0, World.cell?_setCell_same _ _ _ h.c1, by rw [World.cell?_setCell_other _ _ _ _ (by simp)]; exact h.c2, by rw [World.frozen?_setCell]; exact h.f0, by rw [World.frozen?_setCell]; exact h.f1, by rw [World.frozen?_setCell]; exact h.f2⟩
theorem GS.s2 {W : World} {q V N : Nat} {E : Int} (h : GS W q V N E) (k : Int) : GS (W.setCell ⟨q, 2, none⟩ (.int .i64 k)) q V N k :=
  ⟨by rw [World.cell?_setCell_other _ _ _ _ (by simp)]; exact h.c0, by rw [World.cell?_setCell_other _ _ _ _ (by simp)]; exact h.c1, World.cell?_setCell_same _ _ _ h.c2, by rw [World.frozen?_setCell]; exact h.f0, by rw [World.frozen?_setCell]; exact h.f1, by rw [World.frozen?_setCell]; exact h.f2⟩
theorem GS.keep {W W' : World} {q V N : Nat} {E : Int} (h : GS W q V N E) (hb : W'.heap[q]? = W.heap[q]?) : GS W' q V N E :=
  ⟨(World.cell?_of_block hb).trans h.c0, (World.cell?_of_block hb).trans h.c1, (World.cell?_of_block hb).trans h.c2, (World.frozen?_of_block hb).trans h.f0, (World.frozen?_of_block hb).trans h.f1, (World.frozen?_of_block hb).trans h.f2⟩
theorem GS.made (W : World) (t : TypeId) : GS (W.alloc (.cells #[.int .u64 0, .int .i64 0, .int .i64 0] t)) W.heap.size 0 0 0 :=
  ⟨cell_of_row _ _ _ _ _ _ (heap_alloc_new W _), cell_of_row _ _ _ _ _ _ (heap_alloc_new W _), cell_of_row _ _ _ _ _ _ (heap_alloc_new W _), World.frozen?_alloc_new W _ _ 0, World.frozen?_alloc_new W _ _ 1, World.frozen?_alloc_new W _ _ 2⟩
theorem OwnR.below1 {w w' : World} {g : Nat} {A : Option Addr} {c : Nat} {l : List UInt8} {at_ : Nat} {e : Int} (h : OwnR w g A c l at_ e) (hb : Below (g + 1) w w') : OwnR w' g A c l at_ e :=
  ⟨(hb.cell (p := ⟨g, 0, none⟩) (Nat.lt_succ_self g)).trans h.c0, (hb.cell (p := ⟨g, 1, none⟩) (Nat.lt_succ_self g)).trans h.c1, (hb.cell (p := ⟨g, 2, none⟩) (Nat.lt_succ_self g)).trans h.c2, (hb.frozen (p := ⟨g, 1, none⟩) (Nat.lt_succ_self g)).trans h.f1, (hb.frozen (p := ⟨g, 2, none⟩) (Nat.lt_succ_self g)).trans h.f2, Nat.lt_of_lt_of_le h.lt hb.size, h.bytes.below (hb.mono (Nat.le_succ g)), h.cap, h.at_le⟩

structure ST (w W : World) (p q gr : Nat) (x : Wd) (A : Option Addr) (c : Nat) (l : List UInt8) (at_ : Nat) (e : Int) (V N : Nat) (E : Int) : Prop where
  gs : GS W q V N E
  xc : XC W p x
  rd : OwnR W gr A c l at_ e
  below : Below w.heap.size w W
  grp : gr < p
  pq : p < q
  qs : q < W.heap.size
  wgr : w.heap.size ≤ gr
section
variable {w W : World} {p q gr : Nat} {x : Wd} {A : Option Addr} {c : Nat} {l : List UInt8} {at_ : Nat} {e : Int} {V N : Nat} {E : Int}
theorem ST.later (h : ST w W p q gr x A c l at_ e V N E) {W' : World} (hb : Below W.heap.size W W') : ST w W' p q gr x A c l at_ e V N E :=
  ⟨h.gs.keep (hb.block q h.qs), h.xc.keep (hb.block p (Nat.lt_trans h.pq h.qs)), h.rd.new_ hb, h.below.trans (hb.mono h.below.size), h.grp, h.pq, Nat.lt_of_lt_of_le h.qs hb.size, h.wgr⟩
theorem ST.put_ (h : ST w W p q gr x A c l at_ e V N E) (k : Nat) (v : Value) {V' N' : Nat} {E' : Int} (hg : GS (W.setCell ⟨q, k, none⟩ v) q V' N' E') : ST w (W.setCell ⟨q, k, none⟩ v) p q gr x A c l at_ e V' N' E' :=
  ⟨hg, h.xc.keep (Below.heap_setCell _ _ _ _ (show p ≠ q from Nat.ne_of_lt h.pq)), h.rd.below1 ((Below.refl (gr + 1) W).setCell (show gr + 1 ≤ q by have := h.grp; have := h.pq; omega) _), h.below.setCell (show w.heap.size ≤ q by have := h.wgr; have := h.grp; have := h.pq; omega) _, h.grp, h.pq, by simpa [World.setCell] using h.qs, h.wgr⟩
theorem ST.store (h : ST w W p q gr x A c l at_ e V N E) (V' N' : Nat) (E' : Int) : ST w (((W.setCell ⟨q, 0, none⟩ (.int .u64 V')).setCell ⟨q, 1, none⟩ (.int .i64 N')).setCell ⟨q, 2, none⟩ (.int .i64 E')) p q gr x A c l at_ e V' N' E' := by
  have h1 := h.put_ 0 _ (h.gs.s0 V')
  have h2 := h1.put_ 1 _ (h1.gs.s1 N')
  exact h2.put_ 2 _ (h2.gs.s2 E')
theorem ST.storeE (h : ST w W p q gr x A c l at_ e V N E) (E' : Int) : ST w (W.setCell ⟨q, 2, none⟩ (.int .i64 E')) p q gr x A c l at_ e V N E' := h.put_ 2 _ (h.gs.s2 E')
theorem ST.storeN (h : ST w W p q gr x A c l at_ e V N E) (N' : Nat) : ST w (W.setCell ⟨q, 1, none⟩ (.int .i64 N')) p q gr x A c l at_ e V N' E := h.put_ 1 _ (h.gs.s1 N')
theorem ST.read (h : ST w W p q gr x A c l at_ e V N E) {W' : World} {a' : Nat} {e' : Int} (hT : Turn gr W W') (hR : OwnR W' gr A c l a' e') : ST w W' p q gr x A c l a' e' V N E :=
  ⟨h.gs.keep (hT.block q h.qs (by have := h.grp; have := h.pq; omega)), h.xc.keep (hT.block p (Nat.lt_trans h.pq h.qs) (by have := h.grp; omega)), hR, h.below.trans (hT.below h.wgr h.below.size), h.grp, h.pq, Nat.lt_of_lt_of_le h.qs hT.size, h.wgr⟩
end

/-! ### The reader's answers beside the document's -/
section
variable {l : List UInt8} {at_ : Nat} {e n : Int} {V N : Nat} {E : Int}
theorem numS_ok (h : getNum (l.drop at_) = (V, N, E)) : numS l at_ 0 = (V, at_ + N, E) := by unfold numS; rw [if_pos rfl, h]
theorem numS_no (he : e ≠ 0) : numS l at_ e = (0, at_, e) := by unfold numS; rw [if_neg he]
theorem countS_no (he : e ≠ 0) : countS l at_ e n = (0, at_, e) := by unfold countS; rw [numS_no he, if_neg (fun h => he h.1)]
theorem rawS_no (he : e ≠ 0) : rawS l at_ e n = ([], at_, e) := by unfold rawS; rw [if_pos he]
theorem textS_no (he : e ≠ 0) : textS l at_ e n = ([], at_, e) := by unfold textS; rw [countS_no he]; simp only; rw [rawS_no he, if_pos he]
theorem countS_err (h : getNum (l.drop at_) = (V, N, E)) (hE : E ≠ 0) : countS l at_ 0 n = (V, at_ + N, E) := by unfold countS; rw [numS_ok h, if_neg (fun k => hE k.1)]
theorem countS_large (h : getNum (l.drop at_) = (V, N, 0)) (hl : n < 0 ∨ n < (V : Nat)) : countS l at_ 0 n = (0, at_, 4) := by unfold countS; rw [numS_ok h, if_pos ⟨rfl, hl⟩]
theorem countS_ok (h : getNum (l.drop at_) = (V, N, 0)) (h0 : 0 ≤ n) (h1 : (V : Int) ≤ n) : countS l at_ 0 n = (V, at_ + N, 0) := by unfold countS; rw [numS_ok h, if_neg (by simp only [true_and]; omega)]
theorem textS_err (h : getNum (l.drop at_) = (V, N, E)) (hE : E ≠ 0) : textS l at_ 0 n = ([], at_, E) := by
  unfold textS; rw [countS_err h hE]; simp only; rw [rawS_no hE, if_pos hE]
theorem textS_large (h : getNum (l.drop at_) = (V, N, 0)) (hl : n < 0 ∨ n < (V : Nat)) : textS l at_ 0 n = ([], at_, 4) := by
  unfold textS; rw [countS_large h hl]; simp only; rw [rawS_no (by decide), if_pos (show (4 : Int) ≠ 0 by decide)]
theorem textS_short (h : getNum (l.drop at_) = (V, N, 0)) (h0 : 0 ≤ n) (h1 : (V : Int) ≤ n) (hs : l.length - (at_ + N) < V) : textS l at_ 0 n = ([], at_, 2) := by
  have hr : rawS l (at_ + N) 0 (V : Nat) = ([], at_ + N, 2) := by unfold rawS; rw [if_neg (by simp), if_neg (by omega), if_pos (by omega)]
  unfold textS; rw [countS_ok h h0 h1]; simp only; rw [hr, if_pos (show (2 : Int) ≠ 0 by decide)]
theorem textS_ok (h : getNum (l.drop at_) = (V, N, 0)) (h0 : 0 ≤ n) (h1 : (V : Int) ≤ n) (hs : V ≤ l.length - (at_ + N)) : textS l at_ 0 n = ((l.drop (at_ + N)).take V, at_ + N + V, 0) := by
  have hr : rawS l (at_ + N) 0 (V : Nat) = ((l.drop (at_ + N)).take V, at_ + N + V, 0) := by unfold rawS; rw [if_neg (by simp), if_neg (by omega), if_neg (by omega)]; rfl
  unfold textS; rw [countS_ok h h0 h1]; simp only; rw [hr, if_neg (by simp)]
theorem rawS_neg (h : n < 0) : rawS l at_ 0 n = ([], at_, 1) := by unfold rawS; rw [if_neg (by simp), if_pos h]
theorem rawS_short (h : 0 ≤ n) (hs : ((l.length - at_ : Nat) : Int) < n) : rawS l at_ 0 n = ([], at_, 2) := by unfold rawS; rw [if_neg (by simp), if_neg (by omega), if_pos hs]
theorem rawS_ok (k : Nat) (hs : k ≤ l.length - at_) : rawS l at_ 0 (k : Nat) = ((l.drop at_).take k, at_ + k, 0) := by unfold rawS; rw [if_neg (by simp), if_neg (by omega), if_neg (by omega)]; rfl
theorem fixS_ok (h : getFix (l.drop at_) = (V, N, E)) : leNum (rawS l at_ 0 8).1 = V ∧ (rawS l at_ 0 8).2.1 = at_ + N ∧ (rawS l at_ 0 8).2.2 = E := by
  unfold getFix at h
  rw [List.length_drop] at h
  by_cases h8 : l.length - at_ < 8
  · rw [if_pos h8] at h
    simp only [Prod.mk.injEq] at h
    obtain ⟨rfl, rfl, rfl⟩ := h
    rw [rawS_short (by decide) (by omega)]
    exact ⟨rfl, rfl, rfl⟩
  · rw [if_neg h8] at h
    simp only [Prod.mk.injEq] at h
    obtain ⟨rfl, rfl, rfl⟩ := h
    rw [show (8 : Int) = ((8 : Nat) : Int) from rfl, rawS_ok 8 (by omega)]
    exact ⟨rfl, rfl, rfl⟩
theorem fixS_no (he : e ≠ 0) : leNum (rawS l at_ e 8).1 = 0 ∧ (rawS l at_ e 8).2.1 = at_ + 0 ∧ (rawS l at_ e 8).2.2 = e := by
  rw [rawS_no he]
  exact ⟨rfl, rfl, rfl⟩
theorem getNum_fits (h : getNum (l.drop at_) = (V, N, E)) (ha : at_ ≤ l.length) : at_ + N ≤ l.length ∧ V < 18446744073709551616 ∧ (E ≠ 0 → V = 0 ∧ N = 0) := by
  by_cases h0 : E = 0
  · subst h0
    have := getNum_num h
    rw [List.length_drop] at this
    exact ⟨by omega, this.2.2, fun h => absurd rfl h⟩
  · have h1 := numS_err l at_ 0 (by rw [numS_ok h]; exact h0)
    rw [numS_ok h] at h1
    simp only at h1
    exact ⟨by omega, by omega, fun _ => ⟨by omega, by omega⟩⟩
theorem getFix_fits (h : getFix (l.drop at_) = (V, N, E)) (ha : at_ ≤ l.length) : at_ + N ≤ l.length ∧ V < 18446744073709551616 := by
  unfold getFix at h
  rw [List.length_drop] at h
  by_cases h8 : l.length - at_ < 8
  · rw [if_pos h8] at h
    simp only [Prod.mk.injEq] at h
    omega
  · rw [if_neg h8] at h
    simp only [Prod.mk.injEq] at h
    have := leNum_lt ((l.drop at_).take 8)
    rw [List.length_take, List.length_drop, Nat.min_eq_left (by omega)] at this
    simp only [Nat.reducePow] at this
    omega
end
end Go.Proofs.Ytegpoghgddjmaaa
