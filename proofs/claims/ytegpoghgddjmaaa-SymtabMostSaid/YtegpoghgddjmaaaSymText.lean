/- The walk of symtab's text: a block's text at a place. -/
import Derived.Test.YtegpoghgddjmaaaSymAddW
import Derived.Deep.QuietTactic
import Derived.BigQuiet
namespace Go.Proofs.Ytegpoghgddjmaaa
open Go.RowKit
set_option maxRecDepth 100000

theorem txt_cons (a : List UInt8) (r : List (List UInt8)) (k : Nat) : txt (a :: r) (k + 1) = txt r k := by unfold txt; simp
theorem txt_zero (a : List UInt8) (r : List (List UInt8)) : txt (a :: r) 0 = a := rfl
theorem tailsS_get : ∀ (a : List UInt8) (r : List (List UInt8)) (k : Nat), k < r.length → (tailsS a r)[k]? = some (alikeS (txt (a :: r) k) (txt r k), (txt r k).drop (alikeS (txt (a :: r) k) (txt r k)))
  | _, [], k, h => by simp at h
  | a, s :: r, 0, _ => rfl
  | a, s :: r, k + 1, h => by
    unfold tailsS
    rw [List.getElem?_cons_succ, txt_cons, txt_cons]
    exact tailsS_get s r k (by simpa using h)
theorem glue (a s : List UInt8) : a.take (alikeS a s) ++ s.drop (alikeS a s) = s := by
  rw [alikeS_take a s _ (Nat.le_refl _), List.take_append_drop]
theorem str_add (a b : List UInt8) : (({ data := a.toArray } : ByteArray) ++ { data := b.toArray }) = { data := (a ++ b).toArray } := by
  apply ByteArray.ext
  simp

/-- A block's tails as its text reads them. -/
def TailsAt (w : World) (A : Option Addr) (a : List UInt8) (r : List (List UInt8)) : Prop :=
  0 < r.length → ∃ b off, A = some ⟨b, off, none⟩ ∧ b < w.heap.size ∧ ∀ k, k < r.length → w.cell? ⟨b, off + k * 2, none⟩ = some (.int .i64 (alikeS (txt (a :: r) k) (txt r k) : Nat)) ∧ w.cell? ⟨b, off + k * 2 + 1, none⟩ = some (S8 ((txt r k).drop (alikeS (txt (a :: r) k) (txt r k))))
theorem TailsAt.below {w w' : World} {A : Option Addr} {a : List UInt8} {r : List (List UInt8)} (h : TailsAt w A a r) (hb : Below w.heap.size w w') : TailsAt w' A a r := fun hp => by
  obtain ⟨b, off, e, h1, h2⟩ := h hp
  exact ⟨b, off, e, Nat.lt_of_lt_of_le h1 hb.size, fun k hk => ⟨(hb.cell (p := ⟨b, _, none⟩) h1).trans (h2 k hk).1, (hb.cell (p := ⟨b, _, none⟩) h1).trans (h2 k hk).2⟩⟩

set_option maxHeartbeats 4000000 in
theorem text_any (A : Option Addr) (n c i : Nat) (a : List UInt8) (r : List (List UInt8)) (w : World) (hA : TailsAt w A a r) (hn : r.length = n) (hi : i ≤ n) (hc : n ≤ c) (hcm : c ≤ 9223372036854775807) (hlen : ∀ k, (txt (a :: r) k).length ≤ 400) :
    Calls Try.prog 90 #[.agg #[S8 a, .slice A n c], .int .i64 i] w fun e w' => e = .returned (S8 (txt (a :: r) i)) ∧ Below w.heap.size w w' := by
  have HA := Lib.hid (And.intro hA (And.intro hn hlen))
  clear hA hn hlen
  have h0 : Hid (Below w.heap.size w (w.alloc (.cells #[S8 a, .slice A n c] 119))) := na (nr w) _
  go_enter Try.func90, Try.ntmps90
  go_wp2_with fail
  go_loopw [5, 15] (fun s ix wr => ∃ k : Nat, k ≤ i ∧ ix = .int .i64 k ∧ s = S8 (txt (a :: r) k) ∧ Hid (Below w.heap.size w wr)) (fun s ix _ => i - (intOf ix).toNat)
  case atStart => exact ⟨0, Nat.zero_le _, rfl, rfl, h0.out⟩
  case round =>
    obtain ⟨k, hk, rfl, rfl, hW⟩ := hrel
    by_cases hend : k = i
    · subst hend
      go_wp2_with fail
      go_ret
      exact ⟨rfl, hW.out⟩
    · have hki : (k : Int) < (i : Int) := by omega
      obtain ⟨b, off, rfl, hb, hcell⟩ := HA.out.1 (by rw [HA.out.2.1]; omega)
      obtain ⟨k0, k1⟩ := hcell k (by rw [HA.out.2.1]; omega)
      have k0 := (hW.out.cell (p := ⟨b, _, none⟩) hb).trans k0
      have k1 := (hW.out.cell (p := ⟨b, _, none⟩) hb).trans k1
      have hl0 := HA.out.2.2 k
      have hl1 := HA.out.2.2 (k + 1)
      have hal := alikeS_le (txt (a :: r) k) (txt r k)
      have hg := Lib.hid (show (txt (a :: r) k).take (alikeS (txt (a :: r) k) (txt r k)) ++ (txt r k).drop (alikeS (txt (a :: r) k) (txt r k)) = txt (a :: r) (k + 1) by rw [txt_cons]; exact glue _ _)
      rw [txt_cons] at hl1
      generalize txt (a :: r) k = X at *
      generalize txt r k = Y at *
      generalize alikeS X Y = m at *
      have s1 := str_take X m
      have s2 := str_add (X.take m) (Y.drop m)
      have hlt : (X.take m).length = m := by rw [List.length_take]; omega
      have hld : (Y.drop m).length ≤ 400 := by rw [List.length_drop]; omega
      have hmi : (m : Int) ≤ (X.length : Int) := by omega
      clear hcell
      go_wp2_with fail
      go_quiet (fail)
      go_wp2_with fail
      exact ⟨⟨k + 1, by omega, by go_num, by rw [hg.out], ndN (na hW.out _) _⟩, by simp [intOf]; omega⟩

/-! ### A table as its methods read it -/
theorem tails_read {w : World} {g : Nat} {L : List (List UInt8)} {q : Nat} {A : Option Addr} {n c : Nat} (hu : w.ownsRow (g + 1) 122 2 (.slice A n c) (tailsOf L q).length (tcells (tailsOf L q))) :
    n = ((L.drop (8 * q + 1)).take 7).length ∧ n ≤ c ∧ c ≤ 9223372036854775807 ∧ TailsAt w A (txt L (8 * q)) ((L.drop (8 * q + 1)).take 7) := by
  have hn : (tailsOf L q).length = ((L.drop (8 * q + 1)).take 7).length := by unfold tailsOf; rw [tailsS_length]
  rcases hu.2 with ⟨hv, h0⟩ | ⟨gt, cap, cur, hv, hb, hg, hnc, hcm, hcs, ht⟩
  · injection hv with h1 h2 h3
    exact ⟨by omega, by omega, by omega, fun hp => by omega⟩
  · injection hv with h1 h2 h3
    subst h1 h3
    unfold maxLen at hcm
    refine ⟨by omega, by omega, hcm, fun hp => ⟨gt, 0, rfl, (Array.getElem?_eq_some_iff.1 hg).1, fun k hk => ?_⟩⟩
    rw [h2] at hu
    have hT := tailsS_get (txt L (8 * q)) ((L.drop (8 * q + 1)).take 7) k hk
    obtain ⟨k0, k1⟩ := tcells_get _ _ _ hT
    rw [Nat.zero_add]
    exact ⟨(ownsRow_at hu k0).1, (ownsRow_at hu k1).1⟩
theorem txt_block (L : List (List UInt8)) (q i : Nat) (hi : i < 8) (h : 8 * q + i < L.length) : txt (txt L (8 * q) :: (L.drop (8 * q + 1)).take 7) i = txt L (8 * q + i) := by
  cases i with
  | zero => rfl
  | succ i =>
    rw [txt_cons]
    unfold txt
    simp only [List.getD_eq_getElem?_getD]
    rw [List.getElem?_take, if_pos (by omega), List.getElem?_drop]
    congr 2
    omega
theorem txt_block_len {w : World} {g : Nat} {L : List (List UInt8)} {v : Value} {xs : List Value} (h : Tab w g L v xs) (q k : Nat) : (txt (txt L (8 * q) :: (L.drop (8 * q + 1)).take 7) k).length ≤ 400 := by
  cases k with
  | zero => exact h.len _
  | succ k =>
    rw [txt_cons]
    unfold txt
    simp only [List.getD_eq_getElem?_getD]
    rw [List.getElem?_take]
    split
    · rw [List.getElem?_drop]
      have := h.len (8 * q + 1 + k)
      unfold txt at this
      simpa only [List.getD_eq_getElem?_getD] using this
    · simp
/-- The cells of a block, where its table's slice is known. -/
theorem Tab.block {w : World} {g : Nat} {L : List (List UInt8)} {v : Value} {xs : List Value} (h : Tab w g L v xs) {q : Nat} (h8 : 8 * q < L.length) :
    ∃ b off c A n ct, v = .slice (some ⟨b, off, none⟩) (blocksN L.length) c ∧ b < w.heap.size ∧ w.cell? ⟨b, off + q * 2, none⟩ = some (S8 (txt L (8 * q))) ∧ w.cell? ⟨b, off + q * 2 + 1, none⟩ = some (.slice A n ct) ∧
      n = ((L.drop (8 * q + 1)).take 7).length ∧ n ≤ ct ∧ ct ≤ 9223372036854775807 ∧ TailsAt w A (txt L (8 * q)) ((L.drop (8 * q + 1)).take 7) := by
  obtain ⟨b, c, rfl, _, hb⟩ := World.ownsRow.form h.row (by unfold blocksN; omega)
  obtain ⟨u, b1, b2, b3⟩ := h.blk q h8
  obtain ⟨A, ct, rfl⟩ := ownsRow_form b3
  obtain ⟨t1, t2, t3, t4⟩ := tails_read b3
  exact ⟨b, 0, c, A, _, ct, rfl, hb, by rw [Nat.zero_add]; exact (ownsRow_at h.row b1).1, by rw [Nat.zero_add]; exact (ownsRow_at h.row b2).1, t1, t2, t3, t4⟩
theorem block_n {L : List (List UInt8)} {q n : Nat} (h : n = ((L.drop (8 * q + 1)).take 7).length) : n = min 7 (L.length - (8 * q + 1)) := by
  rw [h, List.length_take, List.length_drop]

/-! ### At, Len -/
theorem len_any (g : Nat) (L : List (List UInt8)) (v : Value) (xs : List Value) (w : World) (hT : Tab w g L v xs) : Calls Try.prog 72 #[.pointer (some ⟨g, 0, none⟩)] w fun e w' => e = .returned (.int .i64 (L.length : Nat)) ∧ w = w' := by
  have c0 := hT.c0
  clear hT
  go_enter Try.func72, Try.ntmps72
  go_wp2_with fail
  go_ret
  exact ⟨rfl, rfl⟩
set_option maxHeartbeats 2000000 in
theorem at_no (g : Nat) (L : List (List UInt8)) (v : Value) (xs : List Value) (w : World) (i : Int) (hT : Tab w g L v xs) (hi : i < 0 ∨ (L.length : Int) ≤ i) :
    Calls Try.prog 66 #[.pointer (some ⟨g, 0, none⟩), .int .i64 i] w fun e w' => e = .returned (.tuple #[S8 [], .bool false]) ∧ w = w' := by
  have c0 := hT.c0
  clear hT
  by_cases h0 : i < 0
  · clear hi
    go_enter Try.func66, Try.ntmps66
    go_wp2_with fail
    go_ret2
    exact ⟨rfl, rfl⟩
  · have h1 : (L.length : Int) ≤ i := by omega
    have h0' : 0 ≤ i := by omega
    clear hi
    go_enter Try.func66, Try.ntmps66
    go_wp2_with fail
    go_ret2
    exact ⟨rfl, rfl⟩
set_option maxHeartbeats 4000000 in
theorem at_yes (g i : Nat) (L : List (List UInt8)) (v : Value) (xs : List Value) (w : World) (hT : Tab w g L v xs) (hi : i < L.length) (hl : L.length ≤ 4096) :
    Calls Try.prog 66 #[.pointer (some ⟨g, 0, none⟩), .int .i64 i] w fun e w' => e = .returned (.tuple #[S8 (txt L i), .bool true]) ∧ Below w.heap.size w w' := by
  have c0 := hT.c0
  have c1 := hT.c1
  have hii : (i : Int) < (L.length : Int) := by omega
  obtain ⟨q, hq⟩ : ∃ q, i / 8 = q := ⟨_, rfl⟩
  obtain ⟨j, hj⟩ : ∃ j, i % 8 = j := ⟨_, rfl⟩
  have hij : 8 * q + j = i := by omega
  have hq1 : (i : Int) / 8 = (q : Int) := by omega
  have hq2 : (i : Int) % 8 = (j : Int) := by omega
  have hq3 : (i : Int).tdiv 8 = (q : Int) := by rw [Int.tdiv_eq_ediv_of_nonneg (by omega)]; omega
  have hq4 : (i : Int).tmod 8 = (j : Int) := by rw [Int.tmod_eq_emod_of_nonneg (by omega)]; omega
  obtain ⟨b, off, c, A, n, ct, rfl, hb, k0, k1, hn, hnc, hcm, hTA⟩ := hT.block (q := q) (by omega)
  have hnn := block_n hn
  have hx := text_any A n ct j (txt L (8 * q)) ((L.drop (8 * q + 1)).take 7) w hTA hn.symm (by omega) hnc hcm (txt_block_len hT q)
  rw [txt_block L q j (by omega) (by omega), hij] at hx
  have hqb : (q : Int) < (blocksN L.length : Nat) := by unfold blocksN; omega
  have Hx := Lib.hid hx
  clear hx hTA hn hnn hT hij hq hj
  go_enter Try.func66, Try.ntmps66
  go_wp2_with fail
  refine Hx.out.mono ?_
  rintro e w1 ⟨rfl, hb1⟩
  have Hb := Lib.hid hb1
  clear hb1
  go_wp2_with fail
  go_ret2
  exact ⟨rfl, Hb.out⟩
end Go.Proofs.Ytegpoghgddjmaaa
