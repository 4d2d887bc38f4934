/- The walk of limnographlaw02's awake; pack.Reader's At, Done, Int. -/
import Derived.Test.YtegpoghgddjmaaaReadNum
namespace Go.Proofs.Ytegpoghgddjmaaa
open Go.RowKit
set_option maxRecDepth 100000

theorem OwnW.new_ {w w' : World} {g : Nat} {v : Value} {l : List UInt8} (h : OwnW w g v l) (hb : Below w.heap.size w w') : OwnW w' g v l :=
  ⟨(hb.cell (p := ⟨g, 0, none⟩) h.2.2.1).trans h.1, (hb.frozen (p := ⟨g, 0, none⟩) h.2.2.1).trans h.2.1, Nat.lt_of_lt_of_le h.2.2.1 hb.size, h.2.2.2.new_ hb⟩
theorem OwnR.new_ {w w' : World} {g : Nat} {A : Option Addr} {c : Nat} {l : List UInt8} {at_ : Nat} {e : Int} (h : OwnR w g A c l at_ e) (hb : Below w.heap.size w w') : OwnR w' g A c l at_ e :=
  ⟨(hb.cell (p := ⟨g, 0, none⟩) h.lt).trans h.c0, (hb.cell (p := ⟨g, 1, none⟩) h.lt).trans h.c1, (hb.cell (p := ⟨g, 2, none⟩) h.lt).trans h.c2, (hb.frozen (p := ⟨g, 1, none⟩) h.lt).trans h.f1, (hb.frozen (p := ⟨g, 2, none⟩) h.lt).trans h.f2, Nat.lt_of_lt_of_le h.lt hb.size, h.bytes.below (hb.mono (Nat.le_of_lt h.lt)), h.cap, h.at_le⟩
theorem Grew.new_ {w w' : World} {g : Nat} {v v' : Value} {l : List UInt8} {B : Nat} (h : Grew w w' g v v') (hW : OwnW w g v l) (hB : B ≤ g) {w0 : World} (h0 : Below B w0 w) : Below B w0 w' := h0.trans (h.below hW hB)
theorem Only.new_ {g B : Nat} {w0 w w' : World} (h : Only g w w') (hB : B ≤ g) (h0 : Below B w0 w) : Below B w0 w' := h0.trans (h.below.mono hB)

theorem at_any (g : Nat) (A : Option Addr) (c : Nat) (l : List UInt8) (at_ : Nat) (e : Int) (w : World) (hR : OwnR w g A c l at_ e) : Calls Try.prog 35 #[.pointer (some ⟨g, 0, none⟩)] w fun e' w' => w' = w ∧ e' = .returned (.int .i64 (at_ : Nat)) := by
  obtain ⟨c0, c1, c2, f1, f2, lt, hb, hcap, hle⟩ := hR
  go_enter Try.func35, Try.ntmps35
  go_wp2
  go_ret
  exact ⟨rfl, rfl⟩
theorem done_any (g : Nat) (A : Option Addr) (c : Nat) (l : List UInt8) (at_ : Nat) (e : Int) (w : World) (hR : OwnR w g A c l at_ e) (hl : l.length ≤ 140737488355328) :
    Calls Try.prog 37 #[.pointer (some ⟨g, 0, none⟩)] w fun e' w' => (∃ n, w' = w.drewN n) ∧ e' = .returned (.int .i64 (if e = 0 ∧ at_ < l.length then 3 else e)) := by
  obtain ⟨c0, c1, c2, f1, f2, lt, hb, hcap, hle⟩ := id hR
  by_cases he : e = 0
  · subst he
    by_cases hend : at_ < l.length
    · rw [if_pos ⟨rfl, hend⟩]
      go_enter Try.func37, Try.ntmps37
      go_wp2_with fail
      refine (left_any g A c l at_ 0 w hR hl).mono ?_
      rintro e w' ⟨rfl, rfl⟩
      have hp : (0 : Int) < ((l.length - at_ : Nat) : Int) := by omega
      generalize l.length - at_ = L at hp ⊢
      go_wp2_with fail
      go_ret
      exact ⟨⟨1, rfl⟩, rfl⟩
    · rw [if_neg (by omega)]
      go_enter Try.func37, Try.ntmps37
      go_wp2_with fail
      refine (left_any g A c l at_ 0 w hR hl).mono ?_
      rintro e w' ⟨rfl, rfl⟩
      have hp : l.length - at_ = 0 := by omega
      rw [hp]
      go_wp2_with fail
      go_ret
      exact ⟨⟨1, rfl⟩, rfl⟩
  · rw [if_neg (by omega)]
    have hq : (e == 0) = false := by rw [beq_eq_false_iff_ne]; exact he
    go_enter Try.func37, Try.ntmps37
    go_wp2
    go_ret
    exact ⟨⟨0, rfl⟩, rfl⟩

theorem awake_form : num 128 ++ (num 1 ++ [97]) ++ num 1 = [128, 128, 1, 97, 1] := by decide +kernel
theorem awake_num : getNum [128, 127] = (0, 0, 3) := by decide +kernel
set_option maxHeartbeats 2000000 in
theorem awake02_any (w : World) : Calls Try.prog 15 #[] w fun e w' => e = .returned (.bool true) ∧ Below w.heap.size w w' := by
  go_enter Try.func15, Try.ntmps15
  go_wp2_with fail
  refine (newWriter_any w).mono ?_
  rintro e w1 ⟨rfl, hW1, hB1⟩
  have H1 := Lib.hid (And.intro hW1 hB1)
  clear hW1 hB1
  generalize hg : w.heap.size = g at H1 ⊢
  go_wp2_with fail
  refine (wnum_any g 128 [] w1 (by decide) _ H1.out.1 (by simp)).mono ?_
  rintro e w2 ⟨rfl, v2, hW2, hG2⟩
  have H2 := Lib.hid (And.intro hW2 (hG2.new_ H1.out.1 (Nat.le_refl _) H1.out.2))
  clear hW2 hG2 H1
  go_wp2_with fail
  refine (wtext_any g [97] _ w2 _ H2.out.1 (by decide +kernel) (by decide)).mono ?_
  rintro e w3 ⟨rfl, v3, hW3, hG3⟩
  have H3 := Lib.hid (And.intro hW3 (hG3.new_ H2.out.1 (Nat.le_refl _) H2.out.2))
  clear hW3 hG3 H2
  go_wp2_with fail
  refine (wint_any g (-1) _ w3 (by decide) (by decide) _ H3.out.1 (by decide +kernel)).mono ?_
  rintro e w4 ⟨rfl, v4, hW4, hG4⟩
  have H4 := Lib.hid (And.intro hW4 (hG4.new_ H3.out.1 (Nat.le_refl _) H3.out.2))
  clear hW4 hG4 H3
  go_wp2_with fail
  have hn5 : Below w4.heap.size w4 (w4.alloc (.cells #[.int .u8 128, .int .u8 127] 5)) := na (nr w4) _
  have hB5 := H4.out.2.trans (hn5.mono (Nat.le_of_lt H4.out.1.2.2.1))
  have hW5 := H4.out.1.new_ hn5
  have hby := Bytes.new w4 #[.int .u8 128, .int .u8 127] 5 (0, 0) [128, 127] rfl
  refine (newReader_any _ 2 2 [128, 127] _ hby rfl (by decide) (fun h => by cases h)).mono ?_
  rintro e w6 ⟨g2, A2, c2, rfl, hg2, hR, hb6⟩
  have hW6 := hW5.new_ hb6
  have hB6 := hB5.trans (hb6.mono (Nat.le_of_lt hW5.2.2.1))
  have hgg : g ≤ g2 := Nat.le_trans (Nat.le_of_lt hW5.2.2.1) hg2
  have H6 := Lib.hid (And.intro hW6 (And.intro hB6 (And.intro hR hgg)))
  clear hn5 hB5 hW5 hby hg2 hR hb6 hW6 hB6 hgg H4
  go_wp2_with fail
  refine (wbytes_any g _ w6 v4 H6.out.1 (by decide +kernel)).mono ?_
  rintro e w7 ⟨A7, c7, rfl, ho7, hb7⟩
  have hl : ([] ++ num 128 ++ (num ([97] : List UInt8).length ++ [97]) ++ num (zig (-1)).toNat : List UInt8) = [128, 128, 1, 97, 1] := by decide +kernel
  rw [hl] at ho7 ⊢
  have hR7 := H6.out.2.2.1.new_ hb7
  have hB7 := H6.out.2.1.trans (hb7.mono (Nat.le_of_lt H6.out.1.2.2.1))
  have hgg := H6.out.2.2.2
  have r1 := run_str w7 _ A7 5 c7 [128, 128, 1, 97, 1] ho7.bytes.1 rfl
  have H7 := Lib.hid (And.intro hR7 (And.intro hB7 hgg))
  clear hl H6 ho7 hb7 hR7 hB7 hgg
  go_wp2_with fail
  refine (rnum_any g2 A2 c2 [128, 127] 0 0 w7 H7.out.1 (by decide)).mono ?_
  rintro e w8 ⟨hR8, rfl, hO8⟩
  have hB8 := hO8.new_ H7.out.2.2 H7.out.2.1
  rw [show ([128, 127] : List UInt8).drop 0 = [128, 127] from rfl, awake_num] at hR8 ⊢
  rw [if_pos rfl] at hR8 ⊢
  have H8 := Lib.hid (And.intro hR8 hB8)
  clear hR8 hO8 hB8 H7
  go_wp2_with fail
  refine (err_any g2 A2 c2 [128, 127] _ _ w8 H8.out.1).mono ?_
  rintro e w9 ⟨rfl, rfl⟩
  go_wp2_with fail
  go_ret
  exact ⟨rfl, by rw [hg]; exact H8.out.2⟩
end Go.Proofs.Ytegpoghgddjmaaa
