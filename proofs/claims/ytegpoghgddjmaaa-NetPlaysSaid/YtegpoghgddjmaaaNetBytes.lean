/- The walk of net.Bytes. -/
import Derived.Test.YtegpoghgddjmaaaNet
namespace Go.Proofs.Ytegpoghgddjmaaa
open Go.RowKit
set_option maxRecDepth 100000

/-- A message's bytes. -/
def mform (a : Bool) (h : Int) (l : List UInt8) : List UInt8 := if a then num 1 ++ num h.toNat else num 0 ++ (num l.length ++ l)
def NBytesPost (a : Bool) (h : Int) (n : Nat) (l : List UInt8) (w : World) (e : Ending) (w' : World) : Prop :=
  Below w.heap.size w w' ∧ ((rightS a h n = false ∧ e = .returned (.tuple #[.slice none 0 0, .int .i64 1])) ∨ (rightS a h n = true ∧ ∃ A' c', e = .returned (.tuple #[.slice A' (mform a h l).length c', .int .i64 0]) ∧ Own w' w.heap.size (.slice A' (mform a h l).length c') (mform a h l)))
theorem right_in {a : Bool} {h : Int} {n : Nat} (hr : rightS a h n = true) : 0 ≤ h ∧ h ≤ 4503599627370497 ∧ n ≤ 65536 := by
  simp [rightS] at hr
  exact ⟨hr.1.1.1, hr.1.1.2, hr.1.2⟩
set_option maxHeartbeats 2000000 in
theorem nbytes_any (a : Bool) (h : Int) (A : Option Addr) (n c : Nat) (l : List UInt8) (w : World) (hA : Bytes w w.heap.size A l) (hn : l.length = n) (hnl : n ≤ 9223372036854775807) :
    Calls Try.prog 58 #[MV a h A n c] w (NBytesPost a h n l w) := by
  have hb1 : Below w.heap.size w (w.alloc (.cells #[.bool a, .int .i64 h, .slice A n c] 54)) := na (nr w) _
  have hm1 := MC.made w a h (.slice A n c) 54
  have hs1 : w.heap.size < (w.alloc (.cells #[.bool a, .int .i64 h, .slice A n c] 54)).heap.size := by simp
  obtain ⟨p0, p1, p2, _, _, _⟩ := id hm1
  go_enter Try.func58, Try.ntmps58
  go_wp2_with fail
  refine (right_any a h A n c _ hnl).mono ?_
  rintro e w2 ⟨rfl, hb2⟩
  have hb := nt hb1 hb2
  have hm2 := hm1.keep (hb2.block w.heap.size hs1)
  have hs2 : w.heap.size < w2.heap.size := Nat.lt_of_lt_of_le hs1 hb2.size
  clear hm1 hb1 hb2 hs1 p0 p1 p2
  generalize hp : w.heap.size = p at hm2 hs2 hb ⊢
  have Hp := Lib.hid hp
  clear hp
  cases hr : rightS a h n with
  | false =>
    have HB := Lib.hid hb
    clear hb hm2
    go_wp2_with fail
    go_ret2
    refine ⟨?_, .inl ⟨hr, rfl⟩⟩
    rw [Hp.out]; exact HB.out
  | true =>
    obtain ⟨hr1, hr2, hr3⟩ := right_in hr
    go_wp2_with fail
    refine (newWriter_any w2).mono ?_
    rintro e w3 ⟨rfl, hW3, hb3⟩
    have hm3 := hm2.keep (hb3.block p hs2)
    have H3 := Lib.hid (And.intro hW3 (And.intro hm3 (hb.trans (hb3.mono (Nat.le_of_lt hs2)))))
    obtain ⟨p0, p1, p2, _, _, _⟩ := hm3
    have hgp : Hid (p < w2.heap.size) := hs2
    clear hW3 hb3 hb hm2 hs2
    generalize w2.heap.size = g at *
    cases a with
    | true =>
      go_wp2_with fail
      refine (wnum_any g 1 [] w3 (by decide) _ H3.out.1 (by simp)).mono ?_
      rintro e w4 ⟨rfl, v4, hW4, hG4⟩
      have hm4 := H3.out.2.1.keep (hG4.block p (Nat.lt_trans hgp.out H3.out.1.2.2.1) (Nat.ne_of_lt hgp.out) (by simp [Value.ownBlock]))
      have H4 := Lib.hid (And.intro hW4 (hG4.new_ H3.out.1 (Nat.le_of_lt hgp.out) H3.out.2.2))
      obtain ⟨p0, p1, p2, _, _, _⟩ := hm4
      clear hW4 hG4 H3
      rw [List.nil_append] at H4
      obtain ⟨hh, rfl⟩ := Int.eq_ofNat_of_zero_le hr1
      go_wp2_with fail
      refine (wnum_any g hh (num 1) w4 (by omega) _ H4.out.1 (by decide +kernel)).mono ?_
      rintro e w5 ⟨rfl, v5, hW5, hG5⟩
      have H5 := Lib.hid (And.intro hW5 (hG5.new_ H4.out.1 (Nat.le_of_lt hgp.out) H4.out.2))
      clear hW5 hG5 H4
      have hfl : (num 1 ++ num hh).length ≤ 140737488355328 := by have := num_length 1; have := num_length hh; rw [List.length_append]; omega
      obtain ⟨F, hF⟩ : ∃ F, num 1 ++ num hh = F := ⟨_, rfl⟩
      have hmf : Hid (mform true (hh : Int) l = F) := hF
      rw [hF] at H5 hfl
      clear hF
      go_wp2_with fail
      refine (wbytes_any g F w5 v5 H5.out.1 hfl).mono ?_
      rintro e w6 ⟨A6, c6, rfl, ho6, hb6⟩
      have H6 := Lib.hid (And.intro ho6 (H5.out.2.trans (hb6.mono (by have := H5.out.2.size; have := Hp.out; omega))))
      have hs5 : Hid (p ≤ w5.heap.size) := show _ ≤ _ by have := H5.out.2.size; have := Hp.out; omega
      clear ho6 hb6 H5
      go_wp2_with fail
      go_ret2
      unfold NBytesPost
      rw [Hp.out, hmf.out]
      exact ⟨H6.out.2, .inr ⟨hr, A6, c6, rfl, H6.out.1.rebase hs5.out⟩⟩
    | false =>
      go_wp2_with fail
      refine (wnum_any g 0 [] w3 (by decide) _ H3.out.1 (by simp)).mono ?_
      rintro e w4 ⟨rfl, v4, hW4, hG4⟩
      have hm4 := H3.out.2.1.keep (hG4.block p (Nat.lt_trans hgp.out H3.out.1.2.2.1) (Nat.ne_of_lt hgp.out) (by simp [Value.ownBlock]))
      have H4 := Lib.hid (And.intro hW4 (hG4.new_ H3.out.1 (Nat.le_of_lt hgp.out) H3.out.2.2))
      obtain ⟨p0, p1, p2, _, _, _⟩ := hm4
      clear hW4 hG4 H3
      rw [List.nil_append] at H4
      have hA4 : Bytes w4 p A l := by have h1 := H4.out.2; rw [← Hp.out] at h1 ⊢; exact hA.below h1
      have r1 := run_str w4 _ A n c l hA4 hn
      have hlen : l.length ≤ 65536 := by omega
      go_wp2_with fail
      refine (wtext_any g l (num 0) w4 _ H4.out.1 (by decide +kernel) (by omega)).mono ?_
      rintro e w5 ⟨rfl, v5, hW5, hG5⟩
      have H5 := Lib.hid (And.intro hW5 (hG5.new_ H4.out.1 (Nat.le_of_lt hgp.out) H4.out.2))
      clear hW5 hG5 H4 r1 hA4
      have hfl : (num 0 ++ (num l.length ++ l)).length ≤ 140737488355328 := by have := num_length 0; have := num_length l.length; rw [List.length_append, List.length_append]; omega
      obtain ⟨F, hF⟩ : ∃ F, num 0 ++ (num l.length ++ l) = F := ⟨_, rfl⟩
      have hmf : Hid (mform false h l = F) := hF
      rw [hF] at H5 hfl
      clear hF
      go_wp2_with fail
      refine (wbytes_any g F w5 v5 H5.out.1 hfl).mono ?_
      rintro e w6 ⟨A6, c6, rfl, ho6, hb6⟩
      have H6 := Lib.hid (And.intro ho6 (H5.out.2.trans (hb6.mono (by have := H5.out.2.size; have := Hp.out; omega))))
      have hs5 : Hid (p ≤ w5.heap.size) := show _ ≤ _ by have := H5.out.2.size; have := Hp.out; omega
      clear ho6 hb6 H5
      go_wp2_with fail
      go_ret2
      unfold NBytesPost
      rw [Hp.out, hmf.out]
      exact ⟨H6.out.2, .inr ⟨hr, A6, c6, rfl, H6.out.1.rebase hs5.out⟩⟩
end Go.Proofs.Ytegpoghgddjmaaa
