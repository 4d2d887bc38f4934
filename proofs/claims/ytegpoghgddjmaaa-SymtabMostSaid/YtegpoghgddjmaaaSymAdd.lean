/- A table of texts: what an added text does to the memory. -/
import Derived.Test.YtegpoghgddjmaaaSymTab
namespace Go.Proofs.Ytegpoghgddjmaaa
open Go.RowKit
set_option maxRecDepth 100000

theorem ownsRow_set {w : World} {base n g cap size : Nat} {e : TypeId} {xs : List Value} (h : w.ownsRow base e size (.slice (some ⟨g, 0, none⟩) n cap) n xs) (i : Nat) (u : Value) :
    (w.setCell ⟨g, i, none⟩ u).ownsRow base e size (.slice (some ⟨g, 0, none⟩) n cap) n (xs.set i u) := by
  refine ⟨by rw [List.length_set]; exact h.1, ?_⟩
  rcases h.2 with ⟨h0, _⟩ | ⟨g', cap', cur, hv, hb, hg, hnc, hcm, hcs, ht⟩
  · cases h0
  · injection hv with h1 h2 h3
    injection h1 with h1
    injection h1 with h1
    subst h1 h3
    exact .inr ⟨g, cap, cur.setIfInBounds i u, rfl, hb, heap_setCell_same _ _ _ _ _ _ hg, hnc, hcm, by simpa using hcs, by rw [Array.toList_setIfInBounds, ← ht, List.take_set]⟩
theorem ownsRow_at {w : World} {base n g cap size : Nat} {e : TypeId} {xs : List Value} (h : w.ownsRow base e size (.slice (some ⟨g, 0, none⟩) n cap) n xs) {i : Nat} {u : Value} (hu : xs[i]? = some u) : w.cell? ⟨g, i, none⟩ = some u ∧ w.frozen? ⟨g, i, none⟩ = false := by
  refine ⟨?_, ?_⟩
  · have := World.ownsRow.cells h (g := g) rfl i u hu
    have he : (⟨g, 0, none⟩ : Addr).add i = ⟨g, i, none⟩ := by unfold Addr.add; split <;> simp_all
    rwa [he] at this
  · rcases h.2 with ⟨h0, _⟩ | ⟨g', cap', cur, hv, hb, hg, _⟩
    · cases h0
    · injection hv with h1 h2 h3
      injection h1 with h1
      injection h1 with h1
      subst h1
      exact frozen_of_row _ _ _ _ _ hg

/-- A text that begins a block. -/
theorem Tab.first {w W w1 : World} {g gb cap q : Nat} {L : List (List UInt8)} {s : List UInt8} {v : Value} {xs : List Value} (h : Tab w g L v xs) (h8 : 8 * q = L.length) (hs : s.length ≤ 400) (hW : Below w.heap.size w W)
    (ho : w1.ownsRow (g + 1) 119 2 (.slice (some ⟨gb, 0, none⟩) (blocksN L.length + 1) cap) (blocksN L.length + 1) (xs ++ [S8 s, .slice none 0 0])) (hg : W.grownBy w1 v.ownBlock) :
    Tab ((w1.setCell ⟨g, 1, none⟩ (.slice (some ⟨gb, 0, none⟩) (blocksN L.length + 1) cap)).setCell ⟨g, 0, none⟩ (.int .i64 ((L.length : Int) + 1))) g (L ++ [s]) (.slice (some ⟨gb, 0, none⟩) (blocksN L.length + 1) cap) (xs ++ [S8 s, .slice none 0 0]) ∧
    Below g w ((w1.setCell ⟨g, 1, none⟩ (.slice (some ⟨gb, 0, none⟩) (blocksN L.length + 1) cap)).setCell ⟨g, 0, none⟩ (.int .i64 ((L.length : Int) + 1))) ∧
    w1.cell? ⟨g, 1, none⟩ = some v ∧ w1.frozen? ⟨g, 1, none⟩ = false ∧ w1.cell? ⟨g, 0, none⟩ = some (.int .i64 (L.length : Nat)) ∧ w1.frozen? ⟨g, 0, none⟩ = false := by
  have hvg : some g ≠ v.ownBlock := fun e => by have := (World.ownsRow.lt h.row g e.symm).1; omega
  have hsz := hW.size
  have hbg : w1.heap[g]? = w.heap[g]? := (hg.block g (by have := h.lt; omega) hvg).trans (hW.block g h.lt)
  have k0 : w1.cell? ⟨g, 0, none⟩ = some (.int .i64 (L.length : Nat)) := (World.cell?_of_block hbg).trans h.c0
  have k1 : w1.cell? ⟨g, 1, none⟩ = some v := (World.cell?_of_block hbg).trans h.c1
  have f0 : w1.frozen? ⟨g, 0, none⟩ = false := (World.frozen?_of_block hbg).trans h.f0
  have f1 : w1.frozen? ⟨g, 1, none⟩ = false := (World.frozen?_of_block hbg).trans h.f1
  obtain ⟨V, hV⟩ : ∃ V, Value.slice (some ⟨gb, 0, none⟩) (blocksN L.length + 1) cap = V := ⟨_, rfl⟩
  obtain ⟨N, hN⟩ : ∃ N, Value.int .i64 ((L.length : Int) + 1) = N := ⟨_, rfl⟩
  rw [hV, hN]
  have hkeep : ∀ k, k ≠ g → ((w1.setCell ⟨g, 1, none⟩ V).setCell ⟨g, 0, none⟩ N).heap[k]? = w1.heap[k]? := fun k hk => by
    rw [Below.heap_setCell _ _ _ _ (by exact hk), Below.heap_setCell _ _ _ _ (by exact hk)]
  have hsize : ((w1.setCell ⟨g, 1, none⟩ V).setCell ⟨g, 0, none⟩ N).heap.size = w1.heap.size := by simp [World.setCell]
  have hg1 := hg.size
  have hn := blocksN_succ_new h8
  have hxl : xs.length = q * 2 := by have := h.row.1; omega
  refine ⟨⟨?_, ?_, ?_, ?_, by rw [hsize]; have := h.lt; omega, ?_, fun p hp => ?_, fun a b u u' hab hu hu' z hz => ?_, fun k => ?_⟩, ⟨?_, ?_, ?_, by rw [hsize]; omega, fun k hk => ?_⟩, k1, f1, k0, f0⟩
  · have k0' : (w1.setCell ⟨g, 1, none⟩ V).cell? ⟨g, 0, none⟩ = some (.int .i64 (L.length : Nat)) := by rw [World.cell?_setCell_other _ _ _ _ (by simp)]; exact k0
    rw [World.cell?_setCell_same _ _ _ k0', ← hN]
    simp
  · rw [World.cell?_setCell_other _ _ _ _ (by simp)]; exact World.cell?_setCell_same _ _ _ k1
  · rw [World.frozen?_setCell, World.frozen?_setCell]; exact f0
  · rw [World.frozen?_setCell, World.frozen?_setCell]; exact f1
  · rw [← hV, show blocksN (L ++ [s]).length = blocksN L.length + 1 by rw [List.length_append]; simp only [List.length_singleton]; omega]
    exact ownsRow_same ho (fun k e => by rw [hV]; exact hkeep k (fun e2 => by subst e2; have := (World.ownsRow.lt ho k e).1; omega))
  · rw [List.length_append] at hp
    simp only [List.length_singleton] at hp
    by_cases hpl : 8 * p < L.length
    · obtain ⟨u, b1, b2, b3⟩ := h.blk p hpl
      refine ⟨u, ?_, ?_, ?_⟩
      · rw [List.getElem?_append_left (by omega), txt_snoc_lt hpl]; exact b1
      · rw [List.getElem?_append_left (by omega)]; exact b2
      · rw [tailsOf_full (by omega)]
        refine ownsRow_same b3 (fun k e => ?_)
        have hl := World.ownsRow.lt b3 k e
        rw [hkeep k (by omega)]
        refine (hg.block k (by omega) (fun e2 => ?_)).trans (hW.block k hl.2)
        rcases rows_apart b3 h.row (by decide) with e3 | e3
        · rw [e3] at e; cases e
        · rw [e, e2] at e3; exact e3 rfl
    · obtain rfl : p = q := by omega
      refine ⟨.slice none 0 0, ?_, ?_, ?_⟩
      · rw [List.getElem?_append_right (by omega), hxl, Nat.sub_self, h8, txt_snoc_eq]; rfl
      · rw [List.getElem?_append_right (by omega), hxl, show p * 2 + 1 - p * 2 = 1 by omega]; rfl
      · rw [tailsOf_new h8]; exact World.ownsRow_nil _ _ _ _
  · have hb' : b * 2 + 1 < (xs ++ [S8 s, .slice none 0 0]).length := (List.getElem?_eq_some_iff.1 hu').1
    rw [List.length_append] at hb'
    simp at hb'
    by_cases hbq : b = q
    · subst hbq
      rw [List.getElem?_append_right (by omega), hxl, show b * 2 + 1 - b * 2 = 1 by omega] at hu'
      injection hu' with hu'
      subst hu'
      cases hz
    · rw [List.getElem?_append_left (by omega)] at hu hu'
      exact h.apart a b u u' hab hu hu' z hz
  · by_cases hk : k < L.length
    · rw [txt_snoc_lt hk]; exact h.len k
    · by_cases hk2 : k = L.length
      · rw [hk2, txt_snoc_eq]; exact hs
      · unfold txt; rw [List.getD_eq_getElem?_getD, List.getElem?_eq_none (by simp; omega)]; simp
  · exact hg.os.trans hW.os
  · exact hg.tape.trans hW.tape
  · exact hg.output.trans hW.output
  · rw [hkeep k (by omega)]
    have hk2 := h.lt
    exact (hg.block k (by omega) (fun e => by have := (World.ownsRow.lt h.row k e.symm).1; omega)).trans (hW.block k (by omega))

/-- A text behind another one of its block. -/
theorem Tab.more {w W w1 : World} {g gb gt nb cb cap q : Nat} {L : List (List UInt8)} {s : List UInt8} {u : Value} {xs : List Value} {t : Nat × List UInt8} (h : Tab w g L (.slice (some ⟨gb, 0, none⟩) nb cb) xs) (h8 : 8 * q < L.length) (h9 : L.length < 8 * q + 8) (hs : s.length ≤ 400)
    (hu : xs[q * 2 + 1]? = some u) (hr : w.ownsRow (g + 1) 122 2 u (tailsOf L q).length (tcells (tailsOf L q))) (ht : t = (alikeS (txt L (L.length - 1)) s, s.drop (alikeS (txt L (L.length - 1)) s))) (hW : Below w.heap.size w W)
    (ho : w1.ownsRow (g + 1) 122 2 (.slice (some ⟨gt, 0, none⟩) ((tailsOf L q).length + 1) cap) ((tailsOf L q).length + 1) (tcells (tailsOf L q) ++ [.int .i64 (t.1 : Nat), S8 t.2])) (hg : W.grownBy w1 u.ownBlock) (hat : u.ownBlock = some gt ∨ gt = W.heap.size) :
    Tab ((w1.setCell ⟨gb, q * 2 + 1, none⟩ (.slice (some ⟨gt, 0, none⟩) ((tailsOf L q).length + 1) cap)).setCell ⟨g, 0, none⟩ (.int .i64 ((L.length : Int) + 1))) g (L ++ [s]) (.slice (some ⟨gb, 0, none⟩) nb cb) (xs.set (q * 2 + 1) (.slice (some ⟨gt, 0, none⟩) ((tailsOf L q).length + 1) cap)) ∧
    Below g w ((w1.setCell ⟨gb, q * 2 + 1, none⟩ (.slice (some ⟨gt, 0, none⟩) ((tailsOf L q).length + 1) cap)).setCell ⟨g, 0, none⟩ (.int .i64 ((L.length : Int) + 1))) ∧
    w1.cell? ⟨gb, q * 2 + 1, none⟩ = some u ∧ w1.frozen? ⟨gb, q * 2 + 1, none⟩ = false ∧ w1.cell? ⟨g, 0, none⟩ = some (.int .i64 (L.length : Nat)) ∧ w1.frozen? ⟨g, 0, none⟩ = false ∧ g ≠ gb := by
  have hnb : nb = blocksN L.length := by
    rcases h.row.2 with ⟨e, _⟩ | ⟨_, _, _, e, _⟩
    · cases e
    · injection e
  have hrow := h.row
  rw [← hnb] at hrow
  have hgb := World.ownsRow.lt hrow gb rfl
  have hug : some g ≠ u.ownBlock := fun e => by have := (World.ownsRow.lt hr g e.symm).1; omega
  have hub : some gb ≠ u.ownBlock := fun e => by
    rcases rows_apart hr hrow (by decide) with e3 | e3
    · rw [e3] at e; cases e
    · exact e3 e.symm
  have hsz := hW.size
  have hgl := h.lt
  have hbg : w1.heap[g]? = w.heap[g]? := (hg.block g (by omega) hug).trans (hW.block g h.lt)
  have hbb : w1.heap[gb]? = w.heap[gb]? := (hg.block gb (by omega) hub).trans (hW.block gb hgb.2)
  have k0 : w1.cell? ⟨g, 0, none⟩ = some (.int .i64 (L.length : Nat)) := (World.cell?_of_block hbg).trans h.c0
  have f0 : w1.frozen? ⟨g, 0, none⟩ = false := (World.frozen?_of_block hbg).trans h.f0
  have hrow1 := ownsRow_same (w' := w1) hrow (fun k e => by injection e with e; subst e; exact hbb)
  have ku := ownsRow_at hrow1 hu
  obtain ⟨V, hV⟩ : ∃ V, Value.slice (some ⟨gt, 0, none⟩) ((tailsOf L q).length + 1) cap = V := ⟨_, rfl⟩
  obtain ⟨N, hN⟩ : ∃ N, Value.int .i64 ((L.length : Int) + 1) = N := ⟨_, rfl⟩
  have hVb : V.ownBlock = some gt := by rw [← hV]; rfl
  rw [hV, hN]
  rw [hV] at ho
  have hkeep : ∀ k, k ≠ g → k ≠ gb → ((w1.setCell ⟨gb, q * 2 + 1, none⟩ V).setCell ⟨g, 0, none⟩ N).heap[k]? = w1.heap[k]? := fun k hk hk2 => by
    rw [Below.heap_setCell _ _ _ _ (by exact hk), Below.heap_setCell _ _ _ _ (by exact hk2)]
  have hkeepg : (w1.setCell ⟨gb, q * 2 + 1, none⟩ V).heap[g]? = w.heap[g]? := by rw [Below.heap_setCell _ _ _ _ (show g ≠ gb by omega)]; exact hbg
  have hsize : ((w1.setCell ⟨gb, q * 2 + 1, none⟩ V).setCell ⟨g, 0, none⟩ N).heap.size = w1.heap.size := by simp [World.setCell]
  have hg1 := hg.size
  have hn := blocksN_succ_more h8 h9
  have hxl : xs.length = q * 2 + 2 := by have := hrow.1; omega
  have hll : (L ++ [s]).length = L.length + 1 := by simp
  refine ⟨⟨?_, ?_, ?_, ?_, by rw [hsize]; omega, ?_, fun p hp => ?_, fun a b x x' hab hx hx' z hz => ?_, fun k => ?_⟩, ⟨?_, ?_, ?_, by rw [hsize]; omega, fun k hk => ?_⟩, ku.1, ku.2, k0, f0, by omega⟩
  · rw [World.cell?_setCell_same _ _ _ ((World.cell?_of_block hkeepg).trans h.c0), ← hN, hll]
    simp
  · rw [World.cell?_setCell_other _ _ _ _ (by simp)]; exact (World.cell?_of_block hkeepg).trans h.c1
  · rw [World.frozen?_setCell]; exact (World.frozen?_of_block hkeepg).trans h.f0
  · rw [World.frozen?_setCell]; exact (World.frozen?_of_block hkeepg).trans h.f1
  · rw [hll, hn.2, ← hn.1, ← hnb]
    exact ownsRow_setCell_below (ownsRow_set hrow1 (q * 2 + 1) V) (by show g < g + 1; omega) _
  · rw [hll] at hp
    by_cases hpq : p = q
    · subst hpq
      refine ⟨V, ?_, ?_, ?_⟩
      · rw [List.getElem?_set_ne (by omega), txt_snoc_lt h8]
        obtain ⟨_, b1, _, _⟩ := h.blk p h8
        exact b1
      · rw [List.getElem?_set_self (by omega)]
      · rw [tailsOf_more h8 h9, ← ht, List.length_append, tcells_snoc]
        refine ownsRow_same ho (fun k e => ?_)
        have hl := World.ownsRow.lt ho k e
        refine hkeep k (by omega) (fun e2 => ?_)
        rcases rows_apart ho hrow1 (by decide) with e3 | e3
        · rw [e3] at e; cases e
        · rw [e, e2] at e3; exact e3 rfl
    · have hpl : 8 * p < L.length := by omega
      have hpq' : p < q := by omega
      obtain ⟨x, b1, b2, b3⟩ := h.blk p hpl
      refine ⟨x, ?_, ?_, ?_⟩
      · rw [List.getElem?_set_ne (by omega), txt_snoc_lt hpl]; exact b1
      · rw [List.getElem?_set_ne (by omega)]; exact b2
      · rw [tailsOf_full (by omega)]
        refine ownsRow_same b3 (fun k e => ?_)
        have hl := World.ownsRow.lt b3 k e
        rw [hkeep k (by omega) (fun e2 => by
          rcases rows_apart b3 hrow (by decide) with e3 | e3
          · rw [e3] at e; cases e
          · rw [e, e2] at e3; exact e3 rfl)]
        exact (hg.block k (by omega) (fun e2 => h.apart p q x u hpq' b2 hu k e2.symm e)).trans (hW.block k hl.2)
  · have hb' : b * 2 + 1 < (xs.set (q * 2 + 1) V).length := (List.getElem?_eq_some_iff.1 hx').1
    rw [List.length_set] at hb'
    rw [List.getElem?_set_ne (by omega)] at hx
    by_cases hbq : b = q
    · subst hbq
      rw [List.getElem?_set_self (by omega)] at hx'
      injection hx' with hx'
      subst hx'
      rw [hVb] at hz
      injection hz with hz
      subst hz
      rcases hat with e | e
      · exact h.apart a b x u hab hx hu gt e
      · intro e2
        obtain ⟨x2, _, b2, b3⟩ := h.blk a (by omega)
        rw [hx] at b2
        injection b2 with b2
        subst b2
        have := (World.ownsRow.lt b3 gt e2).2
        omega
    · rw [List.getElem?_set_ne (by omega)] at hx'
      exact h.apart a b x x' hab hx hx' z hz
  · by_cases hk : k < L.length
    · rw [txt_snoc_lt hk]; exact h.len k
    · by_cases hk2 : k = L.length
      · rw [hk2, txt_snoc_eq]; exact hs
      · unfold txt; rw [List.getD_eq_getElem?_getD, List.getElem?_eq_none (by simp; omega)]; simp
  · exact hg.os.trans hW.os
  · exact hg.tape.trans hW.tape
  · exact hg.output.trans hW.output
  · rw [hkeep k (by omega) (by omega)]
    exact (hg.block k (by omega) (fun e => by have := (World.ownsRow.lt hr k e.symm).1; omega)).trans (hW.block k (by omega))
end Go.Proofs.Ytegpoghgddjmaaa
