/- A table of texts in memory: its blocks, their tails; what add does to them. -/
import Derived.Test.YtegpoghgddjmaaaSymPlain
import Derived.Deep.AppendLies
namespace Go.Proofs.Ytegpoghgddjmaaa
open Go.RowKit
set_option maxRecDepth 100000

/-! ### Texts as blocks -/
def tailsS : List UInt8 → List (List UInt8) → List (Nat × List UInt8)
  | _, [] => []
  | a, s :: r => (alikeS a s, s.drop (alikeS a s)) :: tailsS s r
def tcells (T : List (Nat × List UInt8)) : List Value := T.flatMap fun t => [.int .i64 (t.1 : Nat), S8 t.2]
def txt (L : List (List UInt8)) (k : Nat) : List UInt8 := L.getD k []
def tailsOf (L : List (List UInt8)) (q : Nat) : List (Nat × List UInt8) := tailsS (txt L (8 * q)) ((L.drop (8 * q + 1)).take 7)
def blocksN (n : Nat) : Nat := (n + 7) / 8

theorem tailsS_length : ∀ (a : List UInt8) (r : List (List UInt8)), (tailsS a r).length = r.length
  | _, [] => rfl
  | a, s :: r => by unfold tailsS; rw [List.length_cons, List.length_cons, tailsS_length s r]
theorem tcells_length (T : List (Nat × List UInt8)) : (tcells T).length = T.length * 2 := by
  induction T with
  | nil => rfl
  | cons t T ih => unfold tcells at ih ⊢; rw [List.flatMap_cons, List.length_append, ih, List.length_cons]; simp; omega
theorem tcells_snoc (T : List (Nat × List UInt8)) (t : Nat × List UInt8) : tcells (T ++ [t]) = tcells T ++ [.int .i64 (t.1 : Nat), S8 t.2] := by
  unfold tcells; rw [List.flatMap_append]; rfl
theorem tcells_get : ∀ (T : List (Nat × List UInt8)) (j : Nat) (t : Nat × List UInt8), T[j]? = some t → (tcells T)[j * 2]? = some (.int .i64 (t.1 : Nat)) ∧ (tcells T)[j * 2 + 1]? = some (S8 t.2)
  | [], j, t, h => by simp at h
  | u :: T, 0, t, h => by
    simp at h; subst h
    exact ⟨rfl, rfl⟩
  | u :: T, j + 1, t, h => by
    have ih := tcells_get T j t (by simpa using h)
    have e : tcells (u :: T) = .int .i64 (u.1 : Nat) :: S8 u.2 :: tcells T := rfl
    rw [e, show (j + 1) * 2 = j * 2 + 1 + 1 by omega]
    exact ⟨ih.1, ih.2⟩
theorem tailsS_snoc : ∀ (a s : List UInt8) (r : List (List UInt8)), tailsS a (r ++ [s]) = tailsS a r ++ [(alikeS ((a :: r).getLastD []) s, s.drop (alikeS ((a :: r).getLastD []) s))]
  | a, s, [] => rfl
  | a, s, x :: r => by
    rw [List.cons_append]
    unfold tailsS
    rw [tailsS_snoc x s r]
    rfl
theorem tailsOf_length (L : List (List UInt8)) (q : Nat) : (tailsOf L q).length = min 7 (L.length - (8 * q + 1)) := by
  unfold tailsOf
  rw [tailsS_length, List.length_take, List.length_drop]
theorem txt_snoc_lt {L : List (List UInt8)} {s : List UInt8} {k : Nat} (h : k < L.length) : txt (L ++ [s]) k = txt L k := by
  unfold txt
  simp only [List.getD_eq_getElem?_getD]
  rw [List.getElem?_append_left h]
theorem txt_snoc_eq (L : List (List UInt8)) (s : List UInt8) : txt (L ++ [s]) L.length = s := by
  unfold txt
  simp
theorem tailsOf_full {L : List (List UInt8)} {s : List UInt8} {q : Nat} (h : 8 * q + 8 ≤ L.length) : tailsOf (L ++ [s]) q = tailsOf L q := by
  unfold tailsOf
  rw [txt_snoc_lt (by omega), List.drop_append_of_le_length (by omega), List.take_append_of_le_length (by rw [List.length_drop]; omega)]
theorem tailsOf_new {L : List (List UInt8)} {s : List UInt8} {q : Nat} (h : 8 * q = L.length) : tailsOf (L ++ [s]) q = [] := by
  unfold tailsOf
  rw [List.drop_eq_nil_of_le (by simp; omega)]
  rfl
theorem getLastD_cons_drop {L : List (List UInt8)} {k : Nat} (h : k < L.length) : ((txt L k :: L.drop (k + 1)).getLastD []) = txt L (L.length - 1) := by
  have e : txt L k :: L.drop (k + 1) = L.drop k := by
    unfold txt
    rw [List.drop_eq_getElem_cons h]
    simp [h]
  rw [e]
  unfold txt
  rw [List.getLastD_eq_getLast?, List.getLast?_eq_getElem?, List.getElem?_drop, List.length_drop, List.getD_eq_getElem?_getD]
  congr 2
  omega
theorem tailsOf_more {L : List (List UInt8)} {s : List UInt8} {q : Nat} (h : 8 * q < L.length) (h2 : L.length < 8 * q + 8) :
    tailsOf (L ++ [s]) q = tailsOf L q ++ [(alikeS (txt L (L.length - 1)) s, s.drop (alikeS (txt L (L.length - 1)) s))] := by
  unfold tailsOf
  rw [txt_snoc_lt h, List.drop_append_of_le_length (by omega), List.take_of_length_le (by rw [List.length_append, List.length_drop]; simp; omega), List.take_of_length_le (by rw [List.length_drop]; omega), tailsS_snoc, getLastD_cons_drop h]

/-! ### In memory -/
structure Tab (w : World) (g : Nat) (L : List (List UInt8)) (v : Value) (xs : List Value) : Prop where
  c0 : w.cell? ⟨g, 0, none⟩ = some (.int .i64 (L.length : Nat))
  c1 : w.cell? ⟨g, 1, none⟩ = some v
  f0 : w.frozen? ⟨g, 0, none⟩ = false
  f1 : w.frozen? ⟨g, 1, none⟩ = false
  lt : g < w.heap.size
  row : w.ownsRow (g + 1) 119 2 v (blocksN L.length) xs
  blk : ∀ q, 8 * q < L.length → ∃ u, xs[q * 2]? = some (S8 (txt L (8 * q))) ∧ xs[q * 2 + 1]? = some u ∧ w.ownsRow (g + 1) 122 2 u (tailsOf L q).length (tcells (tailsOf L q))
  apart : ∀ p q u u', p < q → xs[p * 2 + 1]? = some u → xs[q * 2 + 1]? = some u' → ∀ b, u'.ownBlock = some b → u.ownBlock ≠ some b
  len : ∀ k, (txt L k).length ≤ 400

theorem ownsRow_same {w w' : World} {base : Nat} {e : TypeId} {size n : Nat} {v : Value} {xs : List Value} (h : w.ownsRow base e size v n xs) (hb : ∀ q, v.ownBlock = some q → w'.heap[q]? = w.heap[q]?) : w'.ownsRow base e size v n xs := by
  obtain ⟨h1, h2⟩ := h
  refine ⟨h1, ?_⟩
  rcases h2 with h2 | ⟨g, cap, cur, rfl, hbg, hg, r⟩
  · exact .inl h2
  · exact .inr ⟨g, cap, cur, rfl, hbg, (hb g rfl).trans hg, r⟩
theorem Tab.keep {w w' : World} {g : Nat} {L : List (List UInt8)} {v : Value} {xs : List Value} (h : Tab w g L v xs) (hb : ∀ k, g ≤ k → k < w.heap.size → w'.heap[k]? = w.heap[k]?) (hs : w.heap.size ≤ w'.heap.size) : Tab w' g L v xs := by
  have hg := hb g (Nat.le_refl _) h.lt
  refine ⟨(World.cell?_of_block hg).trans h.c0, (World.cell?_of_block hg).trans h.c1, (World.frozen?_of_block hg).trans h.f0, (World.frozen?_of_block hg).trans h.f1, Nat.lt_of_lt_of_le h.lt hs,
    ownsRow_same h.row (fun q e => ?_), fun q hq => ?_, h.apart, h.len⟩
  · have := World.ownsRow.lt h.row q e; exact hb q (by omega) this.2
  · obtain ⟨u, h1, h2, h3⟩ := h.blk q hq
    exact ⟨u, h1, h2, ownsRow_same h3 (fun q e => by have := World.ownsRow.lt h3 q e; exact hb q (by omega) this.2)⟩
theorem Tab.new_ {w w' : World} {g : Nat} {L : List (List UInt8)} {v : Value} {xs : List Value} (h : Tab w g L v xs) (hb : Below w.heap.size w w') : Tab w' g L v xs := h.keep (fun k _ hk => hb.block k hk) hb.size
theorem Tab.made (w : World) : Tab (w.alloc (.cells #[.int .i64 0, .slice none 0 0] 115)) w.heap.size [] (.slice none 0 0) [] :=
  ⟨cell_of_row _ _ _ _ _ _ (heap_alloc_new w _), cell_of_row _ _ _ _ _ _ (heap_alloc_new w _), World.frozen?_alloc_new w _ _ 0, World.frozen?_alloc_new w _ _ 1, by simp, World.ownsRow_nil _ _ _ _, fun q hq => (by simp at hq), fun p q u u' _ h => (by simp at h), fun k => (by simp [txt])⟩

theorem blocksN_succ_new {n q : Nat} (h : 8 * q = n) : blocksN n = q ∧ blocksN (n + 1) = q + 1 := by unfold blocksN; omega
theorem blocksN_succ_more {n q : Nat} (h : 8 * q < n) (h2 : n < 8 * q + 8) : blocksN n = q + 1 ∧ blocksN (n + 1) = q + 1 := by unfold blocksN; omega
end Go.Proofs.Ytegpoghgddjmaaa
