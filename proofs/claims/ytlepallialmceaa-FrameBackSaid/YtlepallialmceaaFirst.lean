/- The walk of frame.First: the payload of the frame with which bytes begin. -/
import Derived.Test.YtlepallialmceaaFrame
namespace Go.Proofs.Ytlepallialmceaa
open Go.RowKit

/-- What bytes begin with: the payload, how many bytes the frame has, the error's number. -/
def first (b : List UInt8) : List UInt8 × Nat × Int :=
  if b = [] then ([], 0, 2)
  else if b[0]? ≠ some 165 then ([], 0, 3)
  else if b.length < 9 then ([], 0, 2)
  else if 65536 < num4 (b.drop 1) then ([], 0, 4)
  else if b.length < 9 + num4 (b.drop 1) then ([], 0, 2)
  else if Crc.more 0 (nums (b.take 5 ++ (b.drop 9).take (num4 (b.drop 1)))) ≠ num4 (b.drop 5) then ([], 0, 5)
  else ((b.drop 9).take (num4 (b.drop 1)), 9 + num4 (b.drop 1), 0)

def FirstPost (b : List UInt8) (w : World) (e : Ending) (w' : World) : Prop :=
  ∃ A' c, e = .returned (.tuple #[.slice A' (first b).1.length c, .int .i64 ((first b).2.1 : Nat), .int .i64 (first b).2.2]) ∧ Own w' w.heap.size (.slice A' (first b).1.length c) (first b).1 ∧ ((first b).2.2 = 0 → A' ≠ none) ∧ Below w.heap.size w w'
/-- One that is refused. -/
theorem FirstPost.no {b : List UInt8} {w w' : World} {e : Ending} (k : Int) (hk : k ≠ 0) (h : first b = ([], 0, k)) (he : e = .returned (.tuple #[.slice none 0 0, .int .i64 0, .int .i64 k])) (hb : Below w.heap.size w w') : FirstPost b w e w' := by
  unfold FirstPost
  rw [h]
  exact ⟨none, 0, he, Own.nil_ _ _, fun e => absurd e hk, hb⟩

/-- One that is taken. -/
theorem FirstPost.yes {b p : List UInt8} {n c : Nat} {A' : Option Addr} {w w' : World} {e : Ending} (h : first b = (p, n, 0)) (he : e = .returned (.tuple #[.slice A' p.length c, .int .i64 (n : Int), .int .i64 0])) (ho : Own w' w.heap.size (.slice A' p.length c) p) (hA : A' ≠ none) (hb : Below w.heap.size w w') : FirstPost b w e w' := by
  unfold FirstPost
  rw [h]
  exact ⟨A', c, he, ho, fun _ => hA, hb⟩

set_option maxHeartbeats 4000000 in
theorem first_any (A : Option Addr) (n cap : Nat) (b : List UInt8) (w : World) (hA : Bytes w w.heap.size A b) (hn : b.length = n) (hl : n ≤ 140737488355328) (hcap : n ≤ cap) (hcm : cap ≤ 9223372036854775807) :
    Calls Try.prog 22 #[.slice A n cap] w (FirstPost b w) := by
  by_cases h0 : b = []
  · subst h0
    obtain rfl : n = 0 := by simpa using hn.symm
    clear hn
    go_enter Try.func22, Try.ntmps22
    go_wp2
    go_ret3
    exact FirstPost.no 2 (by decide) rfl rfl (nr w)
  have hp : 0 < n := by have := List.length_pos_iff.2 h0; omega
  obtain ⟨bl, off, x, rfl, hbl, hx, hc0⟩ := hA.at_ (k := 0) (by omega)
  rw [Nat.add_zero] at hc0
  have hp' : (0 : Int) < (n : Int) := by omega
  have hz : ((n : Int) == 0) = false := by rw [beq_eq_false_iff_ne]; omega
  by_cases h1 : x ≠ 165
  · have hxl : (((x.toNat : Nat) : Int) != 165) = true := by
      rw [bne_iff_ne]
      intro e
      exact h1 (UInt8.toNat_inj.1 (by show x.toNat = 165; omega))
    have Hf : Hid (first b = ([], 0, 3)) := by
      unfold Hid first
      rw [if_neg h0, if_pos (by rw [hx]; intro e; injection e with e; exact h1 e)]
    clear hx hn
    go_enter Try.func22, Try.ntmps22
    go_wp2
    go_ret3
    exact FirstPost.no 3 (by decide) Hf.out rfl (nr w)
  obtain rfl : x = 165 := Classical.byContradiction h1
  clear h1
  have hc0' : w.cell? ⟨bl, off, none⟩ = some (.int .u8 165) := hc0
  clear hc0
  by_cases h9 : n < 9
  · have Hf : Hid (first b = ([], 0, 2)) := by
      unfold Hid first
      rw [if_neg h0, if_neg (by rw [hx]; simp), if_pos (by omega)]
    clear hx hn
    go_enter Try.func22, Try.ntmps22
    go_wp2
    go_ret3
    exact FirstPost.no 2 (by decide) Hf.out rfl (nr w)
  have h5 : ¬ cap = 5 := by omega
  have h1c : ¬ cap = 1 := by omega
  have hN : Bytes w w.heap.size (some ⟨bl, off + 1, none⟩) (b.drop 1) := by
    intro _
    obtain ⟨b', off', e, hb', hc⟩ := hA (by omega)
    injection e with e
    injection e with e1 e2
    subst e1 e2
    exact ⟨_, _, rfl, hb', fun j y hy => by rw [Nat.add_assoc, Nat.add_comm 1 j]; exact hc _ _ (by rw [← hy, List.getElem?_drop, Nat.add_comm])⟩
  have hN5 : Bytes w w.heap.size (some ⟨bl, off + 5, none⟩) (b.drop 5) := by
    intro _
    obtain ⟨b', off', e, hb', hc⟩ := hA (by omega)
    injection e with e
    injection e with e1 e2
    subst e1 e2
    exact ⟨_, _, rfl, hb', fun j y hy => by rw [Nat.add_assoc]; exact hc _ _ (by rw [← hy, List.getElem?_drop])⟩
  have hlN := num4_lt (b.drop 1)
  have hc1 : b.length = n := hn
  have hd1 : (b.drop 1).length = n - 1 := by rw [List.length_drop]; omega
  have hd5 : (b.drop 5).length = n - 5 := by rw [List.length_drop]; omega
  have Hx := Lib.hid hx
  have Hn := Lib.hid hn
  have Hd1 := Lib.hid hd1
  have Hd5 := Lib.hid hd5
  clear hx hn hc1 hd1 hd5
  have hnum := fun (k : Nat) => number_any bl (off + 1) (n - 1) (cap - 1) (b.drop 1) w hN Hd1.out (by omega)
  have Hnum := Lib.hid (hnum 0)
  clear hnum
  have HN := Lib.hid (rfl : num4 (b.drop 1) = num4 (b.drop 1))
  have Hfirst := Lib.hid (show first b = if 65536 < num4 (b.drop 1) then ([], 0, 4) else if n < 9 + num4 (b.drop 1) then ([], 0, 2)
      else if Crc.more 0 (nums (b.take 5 ++ (b.drop 9).take (num4 (b.drop 1)))) ≠ num4 (b.drop 5) then ([], 0, 5) else ((b.drop 9).take (num4 (b.drop 1)), 9 + num4 (b.drop 1), 0) by
    unfold first
    rw [if_neg h0, if_neg (by rw [Hx.out]; simp), if_neg (by rw [Hn.out]; omega), Hn.out])
  clear h0 hp' HN
  generalize num4 (b.drop 1) = N at *
  by_cases h65 : 65536 < N
  · rw [if_pos h65] at Hfirst
    go_enter Try.func22, Try.ntmps22
    go_wp2_with fail
    refine Hnum.out.mono ?_
    rintro e w1 ⟨rfl, k, rfl⟩
    go_wp2_with fail
    go_ret3
    exact FirstPost.no 4 (by decide) Hfirst.out rfl ⟨rfl, rfl, rfl, Nat.le_refl _, fun _ _ => rfl⟩
  rw [if_neg h65] at Hfirst
  by_cases hsh : n < 9 + N
  · rw [if_pos hsh] at Hfirst
    have hsh' : (n : Int) - 9 < (N : Int) := by omega
    go_enter Try.func22, Try.ntmps22
    go_wp2_with fail
    refine Hnum.out.mono ?_
    rintro e w1 ⟨rfl, k, rfl⟩
    go_wp2_with fail
    go_ret3
    exact FirstPost.no 2 (by decide) Hfirst.out rfl ⟨rfl, rfl, rfl, Nat.le_refl _, fun _ _ => rfl⟩
  rw [if_neg hsh] at Hfirst
  have hsh' : ¬ (n : Int) - 9 < (N : Int) := by omega
  have hN9 : ∀ ad : Addr, (cap = 9 ∧ ad = ⟨bl, off, none⟩ ∨ cap ≠ 9 ∧ ad = ⟨bl, off + 9, none⟩) → Bytes w w.heap.size (some ad) ((b.drop 9).take N) ∧ ((b.drop 9).take N).length = N := by
    have hl9 : ((b.drop 9).take N).length = N := by rw [List.length_take, List.length_drop, Hn.out]; omega
    rintro ad (⟨h, rfl⟩ | ⟨h, rfl⟩)
    · have : N = 0 := by omega
      subst this
      exact ⟨Bytes.nil_ _, rfl⟩
    · refine ⟨?_, hl9⟩
      refine Bytes.take ?_ _
      intro _
      obtain ⟨b', off', e, hb', hc⟩ := hA (by have := Hn.out; omega)
      injection e with e
      injection e with e1 e2
      subst e1 e2
      exact ⟨_, _, rfl, hb', fun j y hy => by rw [Nat.add_assoc]; exact hc _ _ (by rw [← hy, List.getElem?_drop])⟩
  have hT5 : Bytes w w.heap.size (some ⟨bl, off, none⟩) (b.take 5) := hA.take 5
  have hl5 := Lib.hid (show (b.take 5).length = 5 by rw [List.length_take, Hn.out]; omega)
  have Hnum5 := Lib.hid (fun W (h : Below w.heap.size w W) => number_any bl (off + 5) (n - 5) (cap - 5) (b.drop 5) W ((hN5.below h).more h.size) Hd5.out (by omega))
  have hc5 : (5 : Int) ≤ (cap : Int) := by omega
  have hn5 : (5 : Int) ≤ (n : Int) := by omega
  have hn9 : ((9 + N : Nat) : Int) ≤ (cap : Int) := by omega
  have hS : Crc.more 0 (nums (b.take 5 ++ (b.drop 9).take N)) < 4294967296 := Crc.more_lt (by decide) (nums_lt _)
  have hN5l := num4_lt (b.drop 5)
  by_cases hc9 : cap = 9
  · subst hc9
    obtain rfl : n = 9 := by omega
    obtain rfl : N = 0 := by omega
    have h9 := Lib.hid (hN9 ⟨bl, off, none⟩ (.inl ⟨rfl, rfl⟩))
    have Hsum := Lib.hid (fun W (h : Below w.heap.size w W) c1 c2 => fsum_any _ 5 c1 (b.take 5) (some ⟨bl, off, none⟩) 0 c2 ((b.drop 9).take 0) W ((hT5.below h).more h.size) hl5.out ((h9.out.1.below h).more h.size) h9.out.2 (by decide) (by omega))
    clear hN9 hT5 hN5 hN
    generalize Crc.more 0 (nums (b.take 5 ++ (b.drop 9).take 0)) = S at *
    generalize num4 (b.drop 5) = M at *
    obtain ⟨t, ht⟩ : ∃ t : Bool, ((S : Int) != (M : Int)) = t := ⟨_, rfl⟩
    go_enter Try.func22, Try.ntmps22
    go_wp2_with fail
    refine Hnum.out.mono ?_
    rintro e w1 ⟨rfl, k, rfl⟩
    go_wp2_with fail
    have hcur : Below w.heap.size w (w.drewN k).drew := nd (nD (nr w) k)
    go_region_held3 (fun _ => True) (exact trivial)
      (first
        | (go_at_call 35; refine (Hsum.out _ hcur _ _).mono ?_; rintro e W' ⟨rfl, hb'⟩; have hcur := nt hcur hb'; clear hb')
        | (go_at_call 36; refine (Hnum5.out _ hcur).mono ?_; rintro e W' ⟨rfl, k', rfl⟩; have hcur := nD hcur k'))
    cases t with
    | true =>
      go_wp2_with fail
      go_ret3
      exact FirstPost.no 5 (by decide) (Hfirst.out.trans (if_pos (fun e => by rw [e] at ht; simp at ht))) rfl hcur
    | false =>
      go_wp2_with fail
      refine (clone_any (some ⟨bl, off, none⟩) 0 _ ((b.drop 9).take 0) _ ((h9.out.1.below hcur).more hcur.size) h9.out.2 (by omega) (fun e => by cases e)).mono ?_
      rintro e w2 ⟨A', c', rfl, hown, hnn, hb2⟩
      go_wp2_with fail
      go_ret3
      exact FirstPost.yes (Hfirst.out.trans (if_neg (fun e => by rw [bne_eq_false_iff_eq] at ht; omega))) (by rw [h9.out.2]; rfl) (hown.rebase hcur.size) (fun e => by cases hnn e) (nt hcur hb2)
  · have b9 : (9 : Int) ≤ 9 + (N : Int) := by omega
    have b9' : 9 + (N : Int) ≤ (cap : Int) := by omega
    have t9 : (9 + (N : Int)).toNat = 9 + N := by omega
    have h9 := Lib.hid (hN9 ⟨bl, off + 9, none⟩ (.inr ⟨hc9, rfl⟩))
    have Hsum := Lib.hid (fun W (h : Below w.heap.size w W) c1 c2 => fsum_any _ 5 c1 (b.take 5) (some ⟨bl, off + 9, none⟩) N c2 ((b.drop 9).take N) W ((hT5.below h).more h.size) hl5.out ((h9.out.1.below h).more h.size) h9.out.2 (by decide) (by omega))
    clear hN9 hT5 hN5 hN
    generalize Crc.more 0 (nums (b.take 5 ++ (b.drop 9).take N)) = S at *
    generalize num4 (b.drop 5) = M at *
    obtain ⟨t, ht⟩ : ∃ t : Bool, ((S : Int) != (M : Int)) = t := ⟨_, rfl⟩
    go_enter Try.func22, Try.ntmps22
    go_wp2_with fail
    refine Hnum.out.mono ?_
    rintro e w1 ⟨rfl, k, rfl⟩
    go_wp2_with fail
    have hcur : Below w.heap.size w (w.drewN k).drew := nd (nD (nr w) k)
    go_region_held3 (fun _ => True) (exact trivial)
      (first
        | (go_at_call 35; refine (Hsum.out _ hcur _ _).mono ?_; rintro e W' ⟨rfl, hb'⟩; have hcur := nt hcur hb'; clear hb')
        | (go_at_call 36; refine (Hnum5.out _ hcur).mono ?_; rintro e W' ⟨rfl, k', rfl⟩; have hcur := nD hcur k'))
    cases t with
    | true =>
      go_wp2_with fail
      go_ret3
      exact FirstPost.no 5 (by decide) (Hfirst.out.trans (if_pos (fun e => by rw [e] at ht; simp at ht))) rfl hcur
    | false =>
      go_wp2_with fail
      refine (clone_any (some ⟨bl, off + 9, none⟩) N _ ((b.drop 9).take N) _ ((h9.out.1.below hcur).more hcur.size) h9.out.2 (by omega) (fun e => by cases e)).mono ?_
      rintro e w2 ⟨A', c', rfl, hown, hnn, hb2⟩
      go_wp2_with fail
      go_ret3
      exact FirstPost.yes (Hfirst.out.trans (if_neg (fun e => by rw [bne_eq_false_iff_eq] at ht; omega))) (by rw [h9.out.2, show ((9 + N : Nat) : Int) = 9 + (N : Int) by omega]; rfl) (hown.rebase hcur.size) (fun e => by cases hnn e) (nt hcur hb2)
end Go.Proofs.Ytlepallialmceaa
