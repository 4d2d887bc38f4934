/- The walks of pack.Writer. -/
import Derived.Test.YtegpoghgddjmaaaBits
import Derived.Test.YtegpoghgddjmaaaZig
import Derived.Deep.LoopGhost
namespace Go.Proofs.Ytegpoghgddjmaaa
open Go.RowKit
set_option maxRecDepth 100000

/-- The writer at block g, whose slice is v, holds l. -/
def OwnW (w : World) (g : Nat) (v : Value) (l : List UInt8) : Prop :=
  w.cell? ⟨g, 0, none⟩ = some v ∧ w.frozen? ⟨g, 0, none⟩ = false ∧ g < w.heap.size ∧ Own w (g + 1) v l
/-- Nothing turned but the writer's own cell and its slice's row. -/
structure Grew (w w' : World) (g : Nat) (v v' : Value) : Prop where
  os : w'.os = w.os
  tape : w'.tape = w.tape
  output : w'.output = w.output
  size : w.heap.size ≤ w'.heap.size
  block : ∀ k, k < w.heap.size → k ≠ g → v.ownBlock ≠ some k → w'.heap[k]? = w.heap[k]?
  own : v'.ownBlock = v.ownBlock ∨ ∃ q, v'.ownBlock = some q ∧ w.heap.size ≤ q
theorem Grew.refl (w : World) (g : Nat) (v : Value) : Grew w w g v v := ⟨rfl, rfl, rfl, Nat.le_refl _, fun _ _ _ _ => rfl, .inl rfl⟩
theorem Grew.trans {a b c : World} {g : Nat} {v v1 v2 : Value} (h : Grew a b g v v1) (k : Grew b c g v1 v2) : Grew a c g v v2 := by
  refine ⟨k.os.trans h.os, k.tape.trans h.tape, k.output.trans h.output, Nat.le_trans h.size k.size, fun i hi hg hv => ?_, ?_⟩
  · have hv1 : v1.ownBlock ≠ some i := by
      rcases h.own with e | ⟨q, e, hq⟩
      · rw [e]; exact hv
      · rw [e]; intro e'; injection e' with e'; omega
    have hs := h.size
    exact (k.block i (by omega) hg hv1).trans (h.block i hi hg hv)
  · rcases k.own with e | ⟨q, e, hq⟩
    · rcases h.own with e1 | ⟨q, e1, hq⟩
      · exact .inl (e.trans e1)
      · exact .inr ⟨q, e.trans e1, hq⟩
    · exact .inr ⟨q, e, Nat.le_trans h.size hq⟩
theorem Grew.below {w w' : World} {g B : Nat} {v v' : Value} {l : List UInt8} (h : Grew w w' g v v') (hW : OwnW w g v l) (hB : B ≤ g) : Below B w w' :=
  ⟨h.os, h.tape, h.output, h.size, fun k hk => h.block k (by have := hW.2.2.1; omega) (by omega) (fun e => by have := (World.ownsRow.lt hW.2.2.2 k e).1; omega)⟩
/-- Behind an append onto the writer's slice, kept in the writer. -/
theorem push {w W w1 : World} {g g' c : Nat} {v : Value} {l l' : List UInt8} (hW : OwnW w g v l) (hw : Below w.heap.size w W) (h2 : Own w1 (g + 1) (.slice (some ⟨g', 0, none⟩) l'.length c) l') (hg : W.grownBy w1 v.ownBlock) (ho : v.ownBlock = some g' ∨ g' = W.heap.size) :
    OwnW (w1.setCell ⟨g, 0, none⟩ (.slice (some ⟨g', 0, none⟩) l'.length c)) g (.slice (some ⟨g', 0, none⟩) l'.length c) l' ∧ Grew w (w1.setCell ⟨g, 0, none⟩ (.slice (some ⟨g', 0, none⟩) l'.length c)) g v (.slice (some ⟨g', 0, none⟩) l'.length c) ∧ w1.cell? ⟨g, 0, none⟩ = some v ∧ w1.frozen? ⟨g, 0, none⟩ = false := by
  obtain ⟨hc, hf, hlt, hown⟩ := hW
  have hne : v.ownBlock ≠ some g := fun e => by have := (World.ownsRow.lt hown g e).1; omega
  have hs := hw.size
  have hb1 := (hg.block g (by omega) (fun e => hne e.symm)).trans (hw.block g hlt)
  have hc1 : w1.cell? ⟨g, 0, none⟩ = some v := (World.cell?_of_block (w := w) hb1).trans hc
  have hf1 : w1.frozen? ⟨g, 0, none⟩ = false := (World.frozen?_of_block (w := w) hb1).trans hf
  refine ⟨⟨World.cell?_setCell_same _ _ _ hc1, by rw [World.frozen?_setCell]; exact hf1, ?_, ownsRow_setCell_below h2 (by show g < g + 1; omega) _⟩, ⟨hg.os.trans hw.os, hg.tape.trans hw.tape, hg.output.trans hw.output, ?_, fun k hk hkg hkv => ?_, ?_⟩, hc1, hf1⟩
  · have := hg.size; simp [World.setCell]; omega
  · have := hg.size; simp [World.setCell]; omega
  · rw [Below.heap_setCell _ _ _ _ (by exact hkg)]
    exact (hg.block k (by omega) (fun e => hkv e.symm)).trans (hw.block k hk)
  · rcases ho with ho | ho
    · exact .inl ho.symm
    · exact .inr ⟨g', rfl, by omega⟩
/-- A number's form: k, then its bytes. -/
def low8 (v : Nat) : UInt8 := UInt8.ofNat v
def tail8 (v : Nat) : Nat → List UInt8
  | 0 => []
  | k + 1 => low8 (v / 256 ^ k) :: tail8 v k
def lead (v : Nat) : Nat := 256 - 2 ^ (8 - oth v) + (if oth v < 8 then v / 256 ^ oth v else 0)
def num (v : Nat) : List UInt8 := low8 (lead v) :: tail8 v (oth v)

theorem newWriter_any (w : World) : Calls Try.prog 20 #[] w fun e w' => e = .returned (.pointer (some ⟨w.heap.size, 0, none⟩)) ∧ OwnW w' w.heap.size (.slice none 0 0) [] ∧ Below w.heap.size w w' := by
  go_enter Try.func20, Try.ntmps20
  go_wp2
  go_ret
  refine ⟨rfl, ⟨?_, ?_, ?_, ?_⟩, na (nr w) _⟩
  · exact (cell_of_row _ _ _ _ _ _ (heap_alloc_new w _))
  · exact World.frozen?_alloc_new w _ _ 0
  · simp
  · exact Own.nil_ _ _

theorem lead_or : ∀ k : Fin 8, ∀ x : Fin 128, x.val < 2 ^ (7 - k.val) → (256 - 2 ^ (8 - k.val)) ||| x.val = 256 - 2 ^ (8 - k.val) + x.val := by decide +kernel
theorem oth_fits {v : Nat} (h : oth v < 8) : v / 256 ^ oth v < 2 ^ (7 - oth v) := by
  by_cases h0 : v < 128
  · have e : oth v = 0 := by unfold oth; rw [if_pos h0]
    rw [e]; simp only [Nat.reducePow, Nat.reduceSub]; omega
  by_cases h1 : v < 16384
  · have e : oth v = 1 := by unfold oth; rw [if_neg h0, if_pos h1]
    rw [e]; simp only [Nat.reducePow, Nat.reduceSub]; omega
  by_cases h2 : v < 2097152
  · have e : oth v = 2 := by unfold oth; rw [if_neg h0, if_neg h1, if_pos h2]
    rw [e]; simp only [Nat.reducePow, Nat.reduceSub]; omega
  by_cases h3 : v < 268435456
  · have e : oth v = 3 := by unfold oth; rw [if_neg h0, if_neg h1, if_neg h2, if_pos h3]
    rw [e]; simp only [Nat.reducePow, Nat.reduceSub]; omega
  by_cases h4 : v < 34359738368
  · have e : oth v = 4 := by unfold oth; rw [if_neg h0, if_neg h1, if_neg h2, if_neg h3, if_pos h4]
    rw [e]; simp only [Nat.reducePow, Nat.reduceSub]; omega
  by_cases h5 : v < 4398046511104
  · have e : oth v = 5 := by unfold oth; rw [if_neg h0, if_neg h1, if_neg h2, if_neg h3, if_neg h4, if_pos h5]
    rw [e]; simp only [Nat.reducePow, Nat.reduceSub]; omega
  by_cases h6 : v < 562949953421312
  · have e : oth v = 6 := by unfold oth; rw [if_neg h0, if_neg h1, if_neg h2, if_neg h3, if_neg h4, if_neg h5, if_pos h6]
    rw [e]; simp only [Nat.reducePow, Nat.reduceSub]; omega
  by_cases h7 : v < 72057594037927936
  · have e : oth v = 7 := by unfold oth; rw [if_neg h0, if_neg h1, if_neg h2, if_neg h3, if_neg h4, if_neg h5, if_neg h6, if_pos h7]
    rw [e]; simp only [Nat.reducePow, Nat.reduceSub]; omega
  have e : oth v = 8 := by unfold oth; rw [if_neg h0, if_neg h1, if_neg h2, if_neg h3, if_neg h4, if_neg h5, if_neg h6, if_neg h7]
  omega
theorem oth_le (v : Nat) : oth v ≤ 8 := by
  unfold oth
  repeat' split
  all_goals omega
theorem lead_u8 {v : Nat} (h : oth v < 8) : bits .or .u8 (255 * 2 ^ (8 - oth v) % 256) ((v : Int) / 2 ^ (8 * oth v) % 256) = ((low8 (lead v)).toNat : Int) := by
  have hx := oth_fits h
  have h2 : (2 : Nat) ^ (8 * oth v) = 256 ^ oth v := by rw [Nat.pow_mul]
  have e1 : (v : Int) / 2 ^ (8 * oth v) % 256 = ((v / 256 ^ oth v : Nat) : Int) := by
    rw [← h2]
    have : ((v / 2 ^ (8 * oth v) : Nat) : Int) = (v : Int) / 2 ^ (8 * oth v) := by simp
    have h128 : 2 ^ (7 - oth v) ≤ 2 ^ 7 := Nat.pow_le_pow_right (by decide) (by omega)
    rw [← h2] at hx
    rw [← this, show (256 : Int) = ((256 : Nat) : Int) from rfl, ← Int.natCast_emod, Nat.mod_eq_of_lt (by omega)]
  have hk : ∀ k : Fin 8, (255 * 2 ^ (8 - k.val) % 256 : Int) = ((256 - 2 ^ (8 - k.val) : Nat) : Int) := by decide
  have e2 := hk ⟨oth v, h⟩
  simp only at e2
  have h128 : 2 ^ (7 - oth v) ≤ 2 ^ 7 := Nat.pow_le_pow_right (by decide) (by omega)
  have e3 := lead_or ⟨oth v, h⟩ ⟨v / 256 ^ oth v, by omega⟩ hx
  simp only at e3
  have h2p : 2 ^ (8 - oth v) = 2 * 2 ^ (7 - oth v) := by rw [show 8 - oth v = (7 - oth v) + 1 by omega, Nat.pow_succ, Nat.mul_comm]
  have hp := Nat.two_pow_pos (7 - oth v)
  rw [e1, e2, u8_or_nat _ _ (by omega) (by omega), e3]
  unfold low8 lead
  rw [if_pos h, UInt8.toNat_ofNat']
  omega

/-- Behind j of the tail's bytes. -/
theorem tail8_snoc (v k : Nat) : tail8 v (k + 1) = low8 (v / 256 ^ k) :: tail8 v k := rfl

theorem lead_u8_8 {v : Nat} (h : oth v = 8) : (255 * 2 ^ (8 - oth v) % 256 : Int) = ((low8 (lead v)).toNat : Int) := by
  unfold low8 lead
  rw [h, if_neg (by decide)]
  decide

theorem tail_u8 (v k : Nat) : (v : Int) / 2 ^ (8 * k) % 256 = ((low8 (v / 256 ^ k)).toNat : Int) := by
  have h2 : (2 : Nat) ^ (8 * k) = 256 ^ k := by rw [Nat.pow_mul]
  have : ((v / 2 ^ (8 * k) : Nat) : Int) = (v : Int) / 2 ^ (8 * k) := by simp
  unfold low8
  rw [← this, ← h2, UInt8.toNat_ofNat']
  omega

set_option maxHeartbeats 4000000 in
theorem wnum_any (g v : Nat) (l : List UInt8) (w : World) (hv : v < 18446744073709551616) (v0 : Value) (hW : OwnW w g v0 l) (hl : l.length ≤ 1099511627776) :
    Calls Try.prog 21 #[.pointer (some ⟨g, 0, none⟩), .int .u64 v] w fun e w' => e = .returned (.tuple #[]) ∧ (∃ v1, OwnW w' g v1 (l ++ num v) ∧ Grew w w' g v0 v1) := by
  obtain ⟨hc, hf, hg, hown⟩ := id hW
  obtain ⟨A0, c0, rfl, -⟩ := Own.form hown
  go_enter Try.func21, Try.ntmps21
  go_wp2_with fail
  refine (others_any v w hv).mono ?_
  rintro e w' ⟨rfl, rfl⟩
  by_cases h8 : oth v < 8
  · have hlead := lead_u8 h8
    have hbB : Bytes (w'.alloc (.cells #[B8 (low8 (lead v))] 5)) (w'.alloc (.cells #[B8 (low8 (lead v))] 5)).heap.size (some ⟨w'.heap.size, 0, none⟩) [low8 (lead v)] := Bytes.new w' _ _ _ _ rfl
    go_wp2_with (at_builtin; refine wpList_append_bytes_at rfl (.tmp 26) (.tmp 28) rfl (g + 1) (.slice A0 l.length c0) l rfl (hown.alloc _) _ (some ⟨w'.heap.size, 0, none⟩) 1 [low8 (lead v)] rfl hbB (by simp; omega) (by simp; omega) (by simp) ?_
                 intro g1 c1 w1 ho1 hg1 hat1
                 obtain ⟨hp1, hp2, hp3, hp4⟩ := push hW (na (nr w') _) ho1 hg1 hat1
                 rw [show (l ++ [low8 (lead v)]).length = l.length + 1 by simp] at hp1 hp2
                 have Hp1 := Lib.hid hp1
                 have Hp2 := Lib.hid hp2
                 clear ho1 hg1 hat1 hp1 hp2)
    have hS : Hid (∃ v1 ys, ys ++ tail8 v (oth v) = tail8 v (oth v) ∧ ys.length + oth v = oth v ∧ OwnW (w1.setCell ⟨g, 0, none⟩ (.slice (some ⟨g1, 0, none⟩) (l.length + 1) c1)) g v1 (l ++ low8 (lead v) :: ys) ∧ Grew w' (w1.setCell ⟨g, 0, none⟩ (.slice (some ⟨g1, 0, none⟩) (l.length + 1) c1)) g (.slice A0 l.length c0) v1) := ⟨_, [], by simp, by simp, Hp1.out, Hp2.out⟩
    go_loopg [4] (oth v) (fun k p wr => k ≤ oth v ∧ p = .int .i64 k ∧ Hid (∃ v1 ys, ys ++ tail8 v k = tail8 v (oth v) ∧ ys.length + k = oth v ∧ OwnW wr g v1 (l ++ low8 (lead v) :: ys) ∧ Grew w' wr g (.slice A0 l.length c0) v1))
    case atStart => exact ⟨Nat.le_refl _, rfl, hS⟩
    case round =>
      obtain ⟨hk, rfl, hR⟩ := hrel
      by_cases hk0 : gk = 0
      · subst hk0
        go_wp2
        obtain ⟨v1, ys, hy, hyl, hW1, hG1⟩ := hR.out
        have e : ys = tail8 v (oth v) := by rw [← hy]; simp [tail8]
        rw [e] at hW1
        exact bodyPost_end (v := .tuple #[]) (by simp [results, Try.results21, go_sem]) rfl ⟨rfl, v1, hW1, hG1⟩
      · obtain ⟨v1, ys, hy, hyl, hW1, hG1⟩ := hR.out
        have h9 := oth_le v
        obtain ⟨L, hL⟩ : ∃ L, L = l ++ low8 (lead v) :: ys := ⟨_, rfl⟩
        have hLl : L.length ≤ l.length + 9 := by rw [hL]; simp; omega
        rw [← hL] at hW1
        obtain ⟨A1, c1, rfl, -⟩ := Own.form hW1.2.2.2
        obtain ⟨hc1, hf1, hg1, hown1⟩ := id hW1
        have Hy := Lib.hid (And.intro hy (And.intro hL (And.intro hW1 hG1)))
        clear hy hW1 hG1 hR hL
        have hbyte := tail_u8 v (gk - 1)
        rw [show 8 * (gk - 1) = 8 * gk - 8 by omega] at hbyte
        generalize hB : low8 (v / 256 ^ (gk - 1)) = z at *
        have HB := Lib.hid hB
        clear hB
        have hbB : Bytes (wr.alloc (.cells #[B8 z] 5)) (wr.alloc (.cells #[B8 z] 5)).heap.size (some ⟨wr.heap.size, 0, none⟩) [z] := Bytes.new wr _ _ _ _ rfl
        go_wp2_with (at_builtin; refine wpList_append_bytes_at rfl (.tmp 40) (.tmp 48) rfl (g + 1) (.slice A1 L.length c1) L rfl (hown1.alloc _) _ (some ⟨wr.heap.size, 0, none⟩) 1 [z] rfl hbB (by simp; omega) (by simp; omega) (by simp) ?_
                     intro g2 c2 w2 ho1 hg1' hat1
                     obtain ⟨hp1, hp2, hp3, hp4⟩ := push Hy.out.2.2.1 (na (nr wr) _) ho1 hg1' hat1
                     rw [show (L ++ [z]).length = L.length + 1 by simp] at hp1 hp2
                     have Hp1 := Lib.hid hp1
                     have Hp2 := Lib.hid hp2
                     clear ho1 hg1' hat1 hp1 hp2)
        go_roundg (gk - 1)
        case measure => omega
        case rel =>
          refine ⟨by omega, by congr 1; omega, _, ys ++ [z], ?_, by rw [List.length_append]; simp; omega, ?_, Hy.out.2.2.2.trans Hp2.out⟩
          · have h1 := Hy.out.1
            rw [show gk = (gk - 1) + 1 by omega, tail8_snoc, HB.out] at h1
            rw [List.append_assoc]
            exact h1
          · have h2 := Hp1.out
            rw [Hy.out.2.1] at h2
            simp only [List.append_assoc, List.cons_append] at h2
            rw [Hy.out.2.1]
            exact h2
  · have hle := oth_le v
    have hlead := lead_u8_8 (v := v) (by omega)
    have hbB : Bytes (w'.alloc (.cells #[B8 (low8 (lead v))] 5)) (w'.alloc (.cells #[B8 (low8 (lead v))] 5)).heap.size (some ⟨w'.heap.size, 0, none⟩) [low8 (lead v)] := Bytes.new w' _ _ _ _ rfl
    go_wp2_with (at_builtin; refine wpList_append_bytes_at rfl (.tmp 26) (.tmp 28) rfl (g + 1) (.slice A0 l.length c0) l rfl (hown.alloc _) _ (some ⟨w'.heap.size, 0, none⟩) 1 [low8 (lead v)] rfl hbB (by simp; omega) (by simp; omega) (by simp) ?_
                 intro g1 c1 w1 ho1 hg1 hat1
                 obtain ⟨hp1, hp2, hp3, hp4⟩ := push hW (na (nr w') _) ho1 hg1 hat1
                 rw [show (l ++ [low8 (lead v)]).length = l.length + 1 by simp] at hp1 hp2
                 have Hp1 := Lib.hid hp1
                 have Hp2 := Lib.hid hp2
                 clear ho1 hg1 hat1 hp1 hp2)
    have hS : Hid (∃ v1 ys, ys ++ tail8 v (oth v) = tail8 v (oth v) ∧ ys.length + oth v = oth v ∧ OwnW (w1.setCell ⟨g, 0, none⟩ (.slice (some ⟨g1, 0, none⟩) (l.length + 1) c1)) g v1 (l ++ low8 (lead v) :: ys) ∧ Grew w' (w1.setCell ⟨g, 0, none⟩ (.slice (some ⟨g1, 0, none⟩) (l.length + 1) c1)) g (.slice A0 l.length c0) v1) := ⟨_, [], by simp, by simp, Hp1.out, Hp2.out⟩
    go_loopg [4] (oth v) (fun k p wr => k ≤ oth v ∧ p = .int .i64 k ∧ Hid (∃ v1 ys, ys ++ tail8 v k = tail8 v (oth v) ∧ ys.length + k = oth v ∧ OwnW wr g v1 (l ++ low8 (lead v) :: ys) ∧ Grew w' wr g (.slice A0 l.length c0) v1))
    case atStart => exact ⟨Nat.le_refl _, rfl, hS⟩
    case round =>
      obtain ⟨hk, rfl, hR⟩ := hrel
      by_cases hk0 : gk = 0
      · subst hk0
        go_wp2
        obtain ⟨v1, ys, hy, hyl, hW1, hG1⟩ := hR.out
        have e : ys = tail8 v (oth v) := by rw [← hy]; simp [tail8]
        rw [e] at hW1
        exact bodyPost_end (v := .tuple #[]) (by simp [results, Try.results21, go_sem]) rfl ⟨rfl, v1, hW1, hG1⟩
      · obtain ⟨v1, ys, hy, hyl, hW1, hG1⟩ := hR.out
        have h9 := oth_le v
        obtain ⟨L, hL⟩ : ∃ L, L = l ++ low8 (lead v) :: ys := ⟨_, rfl⟩
        have hLl : L.length ≤ l.length + 9 := by rw [hL]; simp; omega
        rw [← hL] at hW1
        obtain ⟨A1, c1, rfl, -⟩ := Own.form hW1.2.2.2
        obtain ⟨hc1, hf1, hg1, hown1⟩ := id hW1
        have Hy := Lib.hid (And.intro hy (And.intro hL (And.intro hW1 hG1)))
        clear hy hW1 hG1 hR hL
        have hbyte := tail_u8 v (gk - 1)
        rw [show 8 * (gk - 1) = 8 * gk - 8 by omega] at hbyte
        generalize hB : low8 (v / 256 ^ (gk - 1)) = z at *
        have HB := Lib.hid hB
        clear hB
        have hbB : Bytes (wr.alloc (.cells #[B8 z] 5)) (wr.alloc (.cells #[B8 z] 5)).heap.size (some ⟨wr.heap.size, 0, none⟩) [z] := Bytes.new wr _ _ _ _ rfl
        go_wp2_with (at_builtin; refine wpList_append_bytes_at rfl (.tmp 40) (.tmp 48) rfl (g + 1) (.slice A1 L.length c1) L rfl (hown1.alloc _) _ (some ⟨wr.heap.size, 0, none⟩) 1 [z] rfl hbB (by simp; omega) (by simp; omega) (by simp) ?_
                     intro g2 c2 w2 ho1 hg1' hat1
                     obtain ⟨hp1, hp2, hp3, hp4⟩ := push Hy.out.2.2.1 (na (nr wr) _) ho1 hg1' hat1
                     rw [show (L ++ [z]).length = L.length + 1 by simp] at hp1 hp2
                     have Hp1 := Lib.hid hp1
                     have Hp2 := Lib.hid hp2
                     clear ho1 hg1' hat1 hp1 hp2)
        go_roundg (gk - 1)
        case measure => omega
        case rel =>
          refine ⟨by omega, by congr 1; omega, _, ys ++ [z], ?_, by rw [List.length_append]; simp; omega, ?_, Hy.out.2.2.2.trans Hp2.out⟩
          · have h1 := Hy.out.1
            rw [show gk = (gk - 1) + 1 by omega, tail8_snoc, HB.out] at h1
            rw [List.append_assoc]
            exact h1
          · have h2 := Hp1.out
            rw [Hy.out.2.1] at h2
            simp only [List.append_assoc, List.cons_append] at h2
            rw [Hy.out.2.1]
            exact h2
end Go.Proofs.Ytegpoghgddjmaaa
