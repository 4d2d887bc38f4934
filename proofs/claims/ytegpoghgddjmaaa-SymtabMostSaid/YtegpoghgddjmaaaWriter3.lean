/- The walks of pack.Writer: Fix, Raw. -/
import Derived.Test.YtegpoghgddjmaaaWriter2
namespace Go.Proofs.Ytegpoghgddjmaaa
open Go.RowKit
set_option maxRecDepth 100000

/-- A fixed number's form: its low k bytes, the lowest first. -/
def leb (v : Nat) : Nat → List UInt8
  | 0 => []
  | k + 1 => leb v k ++ [low8 (v / 256 ^ k)]
theorem leb_length (v k : Nat) : (leb v k).length = k := by
  induction k with
  | zero => rfl
  | succ k ih => show (leb v k ++ [_]).length = _; rw [List.length_append, ih]; rfl

theorem OwnW.again {w : World} {g : Nat} {v : Value} {l : List UInt8} (h : OwnW w g v l) (w' : World) (hb : Below w.heap.size w w') : OwnW w' g v l :=
  ⟨(hb.cell (p := ⟨g, 0, none⟩) h.2.2.1).trans h.1, (hb.frozen (p := ⟨g, 0, none⟩) h.2.2.1).trans h.2.1, Nat.lt_of_lt_of_le h.2.2.1 hb.size, h.2.2.2.new_ hb⟩

set_option maxHeartbeats 4000000 in
theorem wfix_any (g v : Nat) (l : List UInt8) (w : World) (v0 : Value) (hW : OwnW w g v0 l) (hl : l.length ≤ 1099511627776) :
    Calls Try.prog 24 #[.pointer (some ⟨g, 0, none⟩), .int .u64 v] w fun e w' => e = .returned (.tuple #[]) ∧ (∃ v1, OwnW w' g v1 (l ++ leb v 8) ∧ Grew w w' g v0 v1) := by
  go_enter Try.func24, Try.ntmps24
  go_wp2_with fail
  have hS : Hid (∃ v1, OwnW w g v1 (l ++ leb v 0) ∧ Grew w w g v0 v1) := ⟨_, by rw [show leb v 0 = [] from rfl, List.append_nil]; exact hW, Grew.refl _ _ _⟩
  clear hW
  go_loopg [5] 8 (fun k p wr => k ≤ 8 ∧ p = .int .i64 ((8 - k : Nat) : Int) ∧ Hid (∃ v1, OwnW wr g v1 (l ++ leb v (8 - k)) ∧ Grew w wr g v0 v1))
  case atStart => exact ⟨Nat.le_refl _, rfl, hS⟩
  case round =>
    obtain ⟨hk, rfl, hR⟩ := hrel
    obtain ⟨v1, hW1, hG1⟩ := hR.out
    by_cases hk0 : gk = 0
    · subst hk0
      have HE := Lib.hid (And.intro hW1 hG1)
      clear hW1 hG1 hR
      go_wp2
      exact bodyPost_end (v := .tuple #[]) (by simp [results, Try.results24, go_sem]) rfl ⟨rfl, v1, HE.out.1, HE.out.2⟩
    · obtain ⟨i, hi⟩ : ∃ i, 8 - gk = i := ⟨_, rfl⟩
      have hi8 : i < 8 := by omega
      have hgi : 8 - (gk - 1) = i + 1 := by omega
      rw [hi] at hW1 ⊢
      obtain ⟨L, hL⟩ : ∃ L, L = l ++ leb v i := ⟨_, rfl⟩
      have hLl : L.length ≤ l.length + 8 := by rw [hL, List.length_append, leb_length]; omega
      rw [← hL] at hW1
      obtain ⟨A1, c1, rfl, -⟩ := Own.form hW1.2.2.2
      obtain ⟨hc1, hf1, hg1, hown1⟩ := id hW1
      have hbyte := tail_u8 v i
      generalize hB : low8 (v / 256 ^ i) = z at *
      have Hy := Lib.hid (And.intro hB (And.intro hL (And.intro hW1 (And.intro hG1 hgi))))
      clear hW1 hG1 hR hL hB hgi
      have hbB : Bytes (wr.alloc (.cells #[B8 z] 5)) (wr.alloc (.cells #[B8 z] 5)).heap.size (some ⟨wr.heap.size, 0, none⟩) [z] := Bytes.new wr _ _ _ _ rfl
      go_wp2_with (at_builtin; refine wpList_append_bytes_at rfl (.tmp 12) (.tmp 19) rfl (g + 1) (.slice A1 L.length c1) L rfl (hown1.alloc _) _ (some ⟨wr.heap.size, 0, none⟩) 1 [z] rfl hbB (by simp; omega) (by simp; omega) (by simp) ?_
                   intro g2 c2 w2 ho1 hg1' hat1
                   obtain ⟨hp1, hp2, hp3, hp4⟩ := push Hy.out.2.2.1 (na (nr wr) _) ho1 hg1' hat1
                   rw [show (L ++ [z]).length = L.length + 1 by simp] at hp1 hp2
                   have Hp1 := Lib.hid hp1
                   have Hp2 := Lib.hid hp2
                   clear ho1 hg1' hat1 hp1 hp2)
      go_roundg (gk - 1)
      case measure => omega
      case rel =>
        have h2 := Hp1.out
        rw [Hy.out.2.1] at h2
        refine ⟨by omega, by rw [Hy.out.2.2.2.2]; congr 1, _, ?_, Hy.out.2.2.2.1.trans Hp2.out⟩
        rw [Hy.out.2.2.2.2]
        show OwnW _ g _ (l ++ (leb v i ++ [low8 (v / 256 ^ i)]))
        rw [Hy.out.1, ← List.append_assoc, Hy.out.2.1]
        exact h2

set_option maxHeartbeats 1000000 in
theorem wraw_any (g : Nat) (A : Option Addr) (n c : Nat) (m : List UInt8) (l : List UInt8) (w : World) (v0 : Value) (hW : OwnW w g v0 l) (hA : Bytes w w.heap.size A m) (hn : m.length = n) (hl : l.length ≤ 549755813888) (hm : n ≤ 549755813888) :
    Calls Try.prog 28 #[.pointer (some ⟨g, 0, none⟩), .slice A n c] w fun e w' => e = .returned (.tuple #[]) ∧ (∃ v1, OwnW w' g v1 (l ++ m) ∧ Grew w w' g v0 v1) := by
  obtain ⟨A1, c1, rfl, -⟩ := Own.form hW.2.2.2
  obtain ⟨hc1, hf1, hg1, hown1⟩ := id hW
  subst hn
  have Hy := Lib.hid (And.intro hW hA)
  clear hW hA
  go_enter Try.func28, Try.ntmps28
  go_wp2_with (at_builtin; refine wpList_append_bytes_form rfl (.tmp 8) (.tmp 9) rfl (g + 1) (.slice A1 l.length c1) l rfl hown1 _ A c m rfl Hy.out.2 (by omega) (by omega) ?_
               intro A2 c2 w2 ho2 hg2 hat2
               obtain ⟨hp1, hp2, hp3, hp4⟩ := push2 Hy.out.1 (nr w) ho2 hg2 hat2
               rw [show (l ++ m).length = l.length + m.length by simp] at hp1 hp2
               have Hp1 := Lib.hid hp1
               have Hp2 := Lib.hid hp2
               clear ho2 hg2 hat2 hp1 hp2)
  have h2 := Hp1.out
  exact bodyPost_end (v := .tuple #[]) (by simp [results, Try.results28, go_sem]) rfl ⟨rfl, _, h2, Hp2.out⟩
end Go.Proofs.Ytegpoghgddjmaaa
