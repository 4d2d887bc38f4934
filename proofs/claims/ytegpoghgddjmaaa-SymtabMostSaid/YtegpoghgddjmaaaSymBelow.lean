/- The walk of symtab's Below: how many texts stand below one. -/
import Derived.Test.YtegpoghgddjmaaaSymSearch
import Derived.Shelf.Abstract
namespace Go.Proofs.Ytegpoghgddjmaaa
open Go.RowKit
set_option maxRecDepth 100000

theorem belowS_len (L : List (List UInt8)) (s : List UInt8) : belowS L s ≤ L.length := List.countP_le_length
theorem belowS_none {L : List (List UInt8)} {s : List UInt8} (h : ∀ x ∈ L, ¬ x < s) : belowS L s = 0 := by
  unfold belowS
  rw [List.countP_eq_zero]
  intro x hx
  rw [bytesLess_eq, decide_eq_true_iff]
  exact h x hx
theorem below_iff : ∀ {L : List (List UInt8)} {s : List UInt8}, L.Pairwise (· < ·) → ∀ i, i < L.length → (txt L i < s ↔ i < belowS L s)
  | [], _, _, i, h => by simp at h
  | x :: L, s, hL, i, h => by
    obtain ⟨h1, h2⟩ := List.pairwise_cons.1 hL
    have hc : belowS (x :: L) s = belowS L s + (if x < s then 1 else 0) := by
      unfold belowS
      rw [List.countP_cons, bytesLess_eq]
      simp only [decide_eq_true_eq]
    by_cases hx : x < s
    · rw [hc, if_pos hx]
      cases i with
      | zero => exact ⟨fun _ => by omega, fun _ => hx⟩
      | succ i => rw [txt_cons, below_iff h2 i (by simpa using h)]; omega
    · have hn : ∀ y ∈ L, ¬ y < s := fun y hy k => hx (List.lt_trans (h1 y hy) k)
      rw [hc, if_neg hx, belowS_none hn]
      constructor
      · intro k
        exfalso
        cases i with
        | zero => exact hx k
        | succ i =>
          rw [txt_cons] at k
          have hi : i < L.length := by simpa using h
          refine hn (txt L i) ?_ k
          unfold txt
          rw [List.getD_eq_getElem?_getD, List.getElem?_eq_getElem hi]
          exact List.getElem_mem hi
      · intro k; omega

def BoxAt (W : World) (b : Nat) (v : Value) : Prop := W.cell? ⟨b, 0, none⟩ = some v
set_option maxHeartbeats 2000000 in
theorem belowc_any (bt bs g q : Nat) (L : List (List UInt8)) (s : List UInt8) (v : Value) (xs : List Value) (W : World) (ht : W.cell? ⟨bt, 0, none⟩ = some (.pointer (some ⟨g, 0, none⟩))) (hs : W.cell? ⟨bs, 0, none⟩ = some (S8 s)) (hT : Tab W g L v xs) (hq : 8 * q < L.length) :
    Calls Try.prog 92 (#[.int .i64 q] ++ #[.pointer (some ⟨bt, 0, none⟩), .pointer (some ⟨bs, 0, none⟩)]) W fun e w' => e = .returned (.bool (!Op.bytesLess (txt L (8 * q)) s)) ∧ Below W.heap.size W w' := by
  have c1 := hT.c1
  obtain ⟨b, off, c, A, n, ct, rfl, hb, k0, k1, _⟩ := hT.block hq
  have hqb : (q : Int) < (blocksN L.length : Nat) := by unfold blocksN; omega
  clear hT
  generalize txt L (8 * q) = X at *
  go_enter Try.func92, Try.ntmps92
  go_wp2_with fail
  go_quiet (fail)
  go_wp2_with fail
  go_ret
  exact ⟨rfl, ndN (nr W) _⟩
def BelowPost (L : List (List UInt8)) (s : List UInt8) (w : World) (e : Ending) (w' : World) : Prop := e = .returned (.int .i64 (belowS L s : Nat)) ∧ Below w.heap.size w w'
set_option maxHeartbeats 4000000 in
theorem below_any (g : Nat) (L : List (List UInt8)) (s : List UInt8) (v : Value) (xs : List Value) (w : World) (hT : Tab w g L v xs) (hl : L.length ≤ 4096) (hL : L.Pairwise (· < ·)) :
    Calls Try.prog 69 #[.pointer (some ⟨g, 0, none⟩), S8 s] w (BelowPost L s w) := by
  obtain ⟨A0, C0, rfl⟩ := ownsRow_form hT.row
  have HT := Lib.hid hT
  have hB0 : Below w.heap.size w ((w.alloc (.cells #[.pointer (some ⟨g, 0, none⟩)] 81)).alloc (.cells #[S8 s] 9)) := na (na (nr w) _) _
  have c1 := (hT.new_ hB0).c1
  have hw := hT.lt
  clear hT
  have ca : ((w.alloc (.cells #[.pointer (some ⟨g, 0, none⟩)] 81)).alloc (.cells #[S8 s] 9)).cell? ⟨w.heap.size, 0, none⟩ = some (.pointer (some ⟨g, 0, none⟩)) := by
    rw [World.cell?_alloc_lt _ _ _ (by simp)]; exact cell_of_row _ _ _ _ _ _ (heap_alloc_new w _)
  have cs : ((w.alloc (.cells #[.pointer (some ⟨g, 0, none⟩)] 81)).alloc (.cells #[S8 s] 9)).cell? ⟨w.heap.size + 1, 0, none⟩ = some (S8 s) := by
    have := cell_of_row _ _ 0 _ _ _ (heap_alloc_new (w.alloc (.cells #[.pointer (some ⟨g, 0, none⟩)] 81)) (.cells #[S8 s] 9))
    rw [World.size_alloc] at this; exact this
  have eg : ∀ args W, (callFunc 92 args).run Try.prog W = .ok (.enter 92 args) W := enters_of Try.func92 (by kernel_rfl) rfl
  have hS := search_any 92 #[.pointer (some ⟨w.heap.size, 0, none⟩), .pointer (some ⟨w.heap.size + 1, 0, none⟩)] (blocksN L.length) (fun q => !Op.bytesLess (txt L (8 * q)) s) _ eg (by unfold blocksN; omega)
    (fun W i hW hi => belowc_any w.heap.size (w.heap.size + 1) g i L s _ xs W ((hW.cell (p := ⟨w.heap.size, 0, none⟩) (by simp; omega)).trans ca) ((hW.cell (p := ⟨w.heap.size + 1, 0, none⟩) (by simp)).trans cs) ((HT.out.new_ hB0).new_ hW) (by unfold blocksN at hi; omega))
    (fun a b hab hb h => by
      have ha := below_iff (s := s) hL (8 * a) (by unfold blocksN at hb; omega)
      have hb := below_iff (s := s) hL (8 * b) (by unfold blocksN at hb; omega)
      simp only [bytesLess_eq, Bool.not_eq_true', decide_eq_false_iff_not] at h ⊢
      rw [ha] at h
      rw [hb]
      omega)
  have HS := Lib.hid hS
  have HB0 := Lib.hid hB0
  clear hS hB0 eg
  go_enter Try.func69, Try.ntmps69
  go_wp2_with fail
  refine HS.out.mono ?_
  rintro e w1 ⟨k, rfl, hkn, hlo, hhi, hb1⟩
  have HB1 := Lib.hid (HB0.out.trans (hb1.mono HB0.out.size))
  have Hlo := Lib.hid (And.intro hlo hhi)
  have cs1 := (hb1.cell (p := ⟨w.heap.size + 1, 0, none⟩) (by simp)).trans cs
  have ca1 := (hb1.cell (p := ⟨w.heap.size, 0, none⟩) (by simp; omega)).trans ca
  have hsz1 := hb1.size
  simp only [World.size_alloc] at hsz1
  clear hlo hhi hb1 HS cs ca c1
  by_cases hk0 : k = 0
  · subst hk0
    have hz : belowS L s = 0 := by
      by_cases hL0 : 0 < L.length
      · have h1 := Hlo.out.2 0 (Nat.le_refl _) (by unfold blocksN; omega)
        have h2 := below_iff (s := s) hL 0 hL0
        simp only [bytesLess_eq, Bool.not_eq_true', decide_eq_false_iff_not] at h1
        rw [show 8 * 0 = 0 from rfl, h2] at h1
        omega
      · have := belowS_len L s; omega
    have Hz := Lib.hid hz
    clear hz
    go_wp2_with fail
    go_ret
    exact ⟨by rw [Hz.out]; rfl, HB1.out⟩
  obtain ⟨q, rfl⟩ : ∃ q, k = q + 1 := ⟨k - 1, by omega⟩
  have hq8 : 8 * q < L.length := by unfold blocksN at hkn; omega
  have hqb : (q : Int) < (blocksN L.length : Nat) := by omega
  have hqk : (((q + 1 : Nat) : Int) == 0) = false := by rw [beq_eq_false_iff_ne]; omega
  have hqk2 : ((q : Int) + 1 == 0) = false := by rw [beq_eq_false_iff_ne]; omega
  have hst : 8 * q < belowS L s := by
    have h1 := Hlo.out.1 q (by omega)
    rw [← below_iff hL (8 * q) hq8]
    simpa [bytesLess_eq] using h1
  have hend : ∀ n, n = min 7 (L.length - (8 * q + 1)) → belowS L s ≤ 8 * q + 1 + n := fun n hn => by
    have hbl := belowS_len L s
    by_cases h7 : 8 * (q + 1) < L.length
    · have h1 := Hlo.out.2 (q + 1) (Nat.le_refl _) (by unfold blocksN; omega)
      have h2 := below_iff (s := s) hL (8 * (q + 1)) h7
      simp only [bytesLess_eq, Bool.not_eq_true', decide_eq_false_iff_not] at h1
      rw [h2] at h1
      omega
    · omega
  have c1 := (HT.out.new_ HB1.out).c1
  obtain ⟨b, off, c, A, n, ct, hv, hb, k0, k1, hn, hnc, hcm, hTA⟩ := (HT.out.new_ HB1.out).block hq8
  injection hv with e1 e2 e3
  subst e1 e3
  clear e2
  have Hend := Lib.hid (hend n (block_n hn))
  have hnn := block_n hn
  have Htx := Lib.hid (And.intro hTA (And.intro hn (And.intro (txt_block_len HT.out q) (fun i hi => below_iff (s := s) hL i hi))))
  have Hbi := Lib.hid hst
  have hn7 : n ≤ 7 := by omega
  have hnL : 8 * q + 1 + n ≤ L.length := by omega
  clear hn hTA hend hL hst Hlo HB0 hnn
  have h0 : Hid (Below w.heap.size w (w1.alloc (.cells #[S8 (txt L (8 * q)), .slice A n ct] 119)) ∧ Below w1.heap.size w1 (w1.alloc (.cells #[S8 (txt L (8 * q)), .slice A n ct] 119))) := ⟨na HB1.out _, na (nr w1) _⟩
  have hq4 : (q : Int) ≤ 512 := by omega
  go_wp2_with fail
  go_loopw [7, 8, 37] (fun m x i wr => ∃ j : Nat, j ≤ n ∧ i = .int .i64 j ∧ m = .int .i64 ((8 * q + 1 + j : Nat) : Int) ∧ x = S8 (txt L (8 * q + j)) ∧ Hid (8 * q + j < belowS L s ∧ Below w.heap.size w wr ∧ Below w1.heap.size w1 wr)) (fun m x i _ => n - (intOf i).toNat)
  case atStart => exact ⟨0, Nat.zero_le _, rfl, by go_num, rfl, Hbi.out, h0.out.1, h0.out.2⟩
  case round =>
    obtain ⟨j, hj, rfl, rfl, rfl, hR⟩ := hrel
    by_cases hjn : j = n
    · subst hjn
      have hz := Lib.hid (show 8 * q + 1 + j = belowS L s by have := Hend.out; have := hR.out.1; omega)
      rw [hz.out]
      go_wp2_with fail
      go_ret
      exact ⟨rfl, hR.out.2.1⟩
    · have hjn' : j < n := by omega
      have hji : (j : Int) < (n : Int) := by omega
      obtain ⟨bt, ot, rfl, hbt, hcell⟩ := Htx.out.1 (by rw [← Htx.out.2.1]; omega)
      obtain ⟨t0, t1⟩ := hcell j (by rw [← Htx.out.2.1]; exact hjn')
      have t0 := (hR.out.2.2.cell (p := ⟨bt, _, none⟩) hbt).trans t0
      have t1 := (hR.out.2.2.cell (p := ⟨bt, _, none⟩) hbt).trans t1
      have cs2 := (hR.out.2.2.cell (p := ⟨w.heap.size + 1, 0, none⟩) (by show w.heap.size + 1 < _; omega)).trans cs1
      have hszr : w.heap.size + 1 < wr.heap.size := by have := hR.out.2.2.size; omega
      have hl0 := Htx.out.2.2.1 j
      have hl1 := Htx.out.2.2.1 (j + 1)
      have hal := alikeS_le (txt (txt L (8 * q) :: (L.drop (8 * q + 1)).take 7) j) (txt ((L.drop (8 * q + 1)).take 7) j)
      have hg := Lib.hid (glue (txt (txt L (8 * q) :: (L.drop (8 * q + 1)).take 7) j) (txt ((L.drop (8 * q + 1)).take 7) j))
      have e1 := txt_block L q j (by omega) (by omega)
      have e2 := txt_block L q (j + 1) (by omega) (by omega)
      rw [txt_cons] at hl1 e2
      rw [← e1]
      have hcmp := Lib.hid (Htx.out.2.2.2 (8 * q + (j + 1)) (by omega))
      have HE := Lib.hid (And.intro e1 e2)
      clear e1 e2 hcell
      generalize txt (txt L (8 * q) :: (L.drop (8 * q + 1)).take 7) j = X at *
      generalize txt ((L.drop (8 * q + 1)).take 7) j = Y at *
      generalize alikeS X Y = m at *
      have s1 := str_take X m
      have s2 := str_add (X.take m) (Y.drop m)
      rw [hg.out] at s2
      have hlt : (X.take m).length = m := by rw [List.length_take]; omega
      have hld : (Y.drop m).length ≤ 400 := by rw [List.length_drop]; omega
      have hmi : (m : Int) ≤ (X.length : Int) := by omega
      cases hYs : Op.bytesLess Y s with
      | false =>
        have hz := Lib.hid (show 8 * q + 1 + j = belowS L s by
          have h1 := hR.out.1
          have h2 := hcmp.out
          rw [← HE.out.2] at h2
          rw [bytesLess_eq, decide_eq_false_iff_not, h2] at hYs
          omega)
        go_wp2_with fail
        go_quiet (fail)
        go_wp2_with fail
        go_ret
        exact ⟨by rw [← hz.out]; go_num, ndN (na hR.out.2.1 _) _⟩
      | true =>
        have hz := Lib.hid (show 8 * q + (j + 1) < belowS L s by
          have h2 := hcmp.out
          rw [← HE.out.2] at h2
          rw [bytesLess_eq, decide_eq_true_iff, h2] at hYs
          exact hYs)
        go_wp2_with fail
        go_quiet (fail)
        go_wp2_with fail
        exact ⟨⟨j + 1, by omega, by go_num, by rw [show ((8 * q + 1 + (j + 1) : Nat) : Int) = 8 * (q : Int) + 1 + (j : Int) + 1 by omega], by rw [HE.out.2], hz.out, ndN (na hR.out.2.1 _) _, ndN (na hR.out.2.2 _) _⟩, by simp [intOf]; omega⟩
end Go.Proofs.Ytegpoghgddjmaaa
