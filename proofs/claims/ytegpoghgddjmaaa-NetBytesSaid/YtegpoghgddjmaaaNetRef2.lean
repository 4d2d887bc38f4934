/- The walk of the document's Bytes of a message. -/
import Derived.Test.YtegpoghgddjmaaaNetRef
import Derived.Test.YtegpoghgddjmaaaNetBytes
import Derived.Test.YtegpoghgddjmaaaRefForm
namespace Go.Proofs.Ytegpoghgddjmaaa
open Go.RowKit
set_option maxRecDepth 100000

set_option maxHeartbeats 2000000 in
theorem rbytes_any (a : Bool) (h : Int) (A : Option Addr) (n c : Nat) (l : List UInt8) (w : World) (hA : Bytes w w.heap.size A l) (hn : l.length = n) (hnl : n ≤ 9223372036854775807) :
    Calls Try.prog 59 #[MV a h A n c] w (NBytesPost a h n l w) := by
  have hb1 : Below w.heap.size w (w.alloc (.cells #[.bool a, .int .i64 h, .slice A n c] 54)) := na (nr w) _
  have hm1 := MC.made w a h (.slice A n c) 54
  have hs1 : w.heap.size < (w.alloc (.cells #[.bool a, .int .i64 h, .slice A n c] 54)).heap.size := by simp
  obtain ⟨p0, p1, p2, _, _, _⟩ := id hm1
  go_enter Try.func59, Try.ntmps59
  go_wp2_with fail
  refine (rright_any a h A n c _ hnl).mono ?_
  rintro e w2 ⟨rfl, hb2⟩
  have hb := nt hb1 hb2
  have hm2 := hm1.keep (hb2.block w.heap.size hs1)
  have hs2 : w.heap.size < w2.heap.size := Nat.lt_of_lt_of_le hs1 hb2.size
  clear hm1 hb1 hb2 hs1 p0 p1 p2
  generalize hp : w.heap.size = p at hm2 hs2 hb ⊢
  have Hp := Lib.hid hp
  clear hp
  cases hr : rightS a h n with
  | false =>
    have HB := Lib.hid hb
    clear hb hm2
    go_wp2_with fail
    go_ret2
    refine ⟨?_, .inl ⟨hr, rfl⟩⟩
    rw [Hp.out]; exact HB.out
  | true =>
    obtain ⟨hr1, hr2, hr3⟩ := right_in hr
    obtain ⟨p0, p1, p2, _, _, _⟩ := id hm2
    have H2 := Lib.hid (And.intro hb (And.intro hm2 hs2))
    clear hb hm2 hs2
    cases a with
    | true =>
      obtain ⟨hh, rfl⟩ := Int.eq_ofNat_of_zero_le hr1
      have hw : IntKind.u64.wrap (hh : Int) = (hh : Int) := by
        have e : ∀ z : Int, IntKind.u64.wrap z = z % 18446744073709551616 := fun z => by simp [IntKind.wrap, IntKind.bits, IntKind.signed]
        rw [e]; omega
      obtain ⟨_, k1, _, _, _, _⟩ := H2.out.2.1.keep ((na (nr w2) (.cells #[.int .u8 1] 5)).block p H2.out.2.2)
      go_wp2_with fail
      refine (rnumform_any hh _ (by omega)).mono ?_
      rintro e w3 ⟨A1, c1, rfl, ho, hb3⟩
      have hOl := (Own.lit w2 w2.heap.size (Nat.le_refl _) #[.int .u8 1] [1] rfl (by simp)).new_ hb3
      have hs3 : Hid ((w2.alloc (.cells #[.int .u8 1] 5)).heap.size ≤ w3.heap.size) := hb3.size
      have HL : Hid ((num hh).length ≤ 70000) := show _ ≤ _ by have := num_length hh; omega
      obtain ⟨F, hF⟩ : ∃ F, num hh = F := ⟨_, rfl⟩
      have HLe := Lib.hid hF
      rw [hF] at HL ho ⊢
      clear hF
      have HO := Lib.hid (And.intro ho (And.intro hOl (H2.out.1.trans ((nt (na (nr w2) (.cells #[.int .u8 1] 5)) hb3).mono (Nat.le_of_lt H2.out.2.2)))))
      clear ho hb3 hOl k1
      go_wp2_with (at_builtin; go_loud (refine wpList_append_bytes_form rfl (.tmp 9) (.tmp 13) rfl w2.heap.size (.slice (some ⟨w2.heap.size, 0, none⟩) 1 1) [1] rfl HO.out.2.1 _ A1 c1 F rfl HO.out.1.bytes.1 (by have := HL.out; simp; omega) (Nat.le_trans (by simp) hs3.out) ?_)
                   intro A2 c2 w4 ho2 hg2 hat2)
      go_ret2
      have hmf : mform true (hh : Int) l = [1] ++ F := by rw [← HLe.out]; rfl
      unfold NBytesPost
      rw [hmf]
      refine ⟨?_, .inr ⟨hr, A2, c2, rfl, ho2.rebase ?_⟩⟩
      · rw [Hp.out]
        exact HO.out.2.2.grown hg2 (Nat.le_trans (Nat.le_of_lt H2.out.2.2) (Nat.le_trans (by simp) hs3.out)) (fun q e => by have := H2.out.2.2; simp [Value.ownBlock] at e; omega)
      · rw [Hp.out]; exact Nat.le_of_lt H2.out.2.2
    | false =>
      obtain ⟨_, _, k2, _, _, _⟩ := H2.out.2.1.keep ((na (nr w2) (.cells #[.int .u8 0] 5)).block p H2.out.2.2)
      have hA2 : Bytes (w2.alloc (.cells #[.int .u8 0] 5)) p A l := by
        have h1 := H2.out.1.trans ((na (nr w2) (.cells #[.int .u8 0] 5)).mono (Nat.le_of_lt H2.out.2.2))
        rw [← Hp.out] at h1 ⊢
        exact hA.below h1
      have r1 := run_str _ _ A n c l hA2 hn
      go_wp2_with fail
      refine (rtextform_any l _ (by omega)).mono ?_
      rintro e w3 ⟨A1, c1, rfl, ho, hb3⟩
      have hOl := (Own.lit w2 w2.heap.size (Nat.le_refl _) #[.int .u8 0] [0] rfl (by simp)).new_ hb3
      have hs3 : Hid ((w2.alloc (.cells #[.int .u8 0] 5)).heap.size ≤ w3.heap.size) := hb3.size
      have HL : Hid ((num l.length ++ l).length ≤ 70000) := show _ ≤ _ by have := num_length l.length; rw [List.length_append]; omega
      obtain ⟨F, hF⟩ : ∃ F, num l.length ++ l = F := ⟨_, rfl⟩
      have HLe := Lib.hid hF
      rw [hF] at HL ho ⊢
      clear hF
      have HO := Lib.hid (And.intro ho (And.intro hOl (H2.out.1.trans ((nt (na (nr w2) (.cells #[.int .u8 0] 5)) hb3).mono (Nat.le_of_lt H2.out.2.2)))))
      clear ho hb3 hOl k2 hA2 r1
      go_wp2_with (at_builtin; go_loud (refine wpList_append_bytes_form rfl (.tmp 15) (.tmp 19) rfl w2.heap.size (.slice (some ⟨w2.heap.size, 0, none⟩) 1 1) [0] rfl HO.out.2.1 _ A1 c1 F rfl HO.out.1.bytes.1 (by have := HL.out; simp; omega) (Nat.le_trans (by simp) hs3.out) ?_)
                   intro A2 c2 w4 ho2 hg2 hat2)
      go_ret2
      have hmf : mform false h l = [0] ++ F := by rw [← HLe.out]; rfl
      unfold NBytesPost
      rw [hmf]
      refine ⟨?_, .inr ⟨hr, A2, c2, rfl, ho2.rebase ?_⟩⟩
      · rw [Hp.out]
        exact HO.out.2.2.grown hg2 (Nat.le_trans (Nat.le_of_lt H2.out.2.2) (Nat.le_trans (by simp) hs3.out)) (fun q e => by have := H2.out.2.2; simp [Value.ownBlock] at e; omega)
      · rw [Hp.out]; exact Nat.le_of_lt H2.out.2.2
end Go.Proofs.Ytegpoghgddjmaaa
