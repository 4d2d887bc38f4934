/- The walk of the document's Build: the bytes of any texts. -/
import Derived.Test.YtegpoghgddjmaaaSymBuild
import Derived.Test.YtegpoghgddjmaaaRefForm
namespace Go.Proofs.Ytegpoghgddjmaaa
open Go.RowKit
set_option maxRecDepth 100000

def RBldW (L : List (List UInt8)) (w wr : World) (k : Nat) (a : List UInt8) (o : Value) : Prop := ∃ F, Own wr w.heap.size o F ∧ Below w.heap.size w wr ∧ BldAt L F k a
set_option maxHeartbeats 4000000 in
theorem rbuild_any (A : Option Addr) (n cap : Nat) (L : List (List UInt8)) (w : World) (hA : Strs w w.heap.size A L) (hn : L.length = n) (hl : n ≤ 1099511627776) :
    Calls Try.prog 73 #[.slice A n cap] w (BuildPost L w) := by
  by_cases h4 : 4096 < n
  · have h4i : (4096 : Int) < (n : Int) := by omega
    have he := Lib.hid (show buildE L = 4 by unfold buildE; rw [if_pos (by omega)])
    have hr := Lib.hid (show buildR L = [] by unfold buildR; rw [he.out]; rfl)
    clear hn
    go_enter Try.func73, Try.ntmps73
    go_wp2_with fail
    go_ret2
    exact ⟨none, 0, 0, by rw [he.out]; rfl, by rw [hr.out]; exact Own.nil_ _ _, nr w⟩
  have h4i : (n : Int) ≤ 4096 := by omega
  have Hn := Lib.hid hn
  have HA := Lib.hid hA
  clear hn hA
  go_enter Try.func73, Try.ntmps73
  go_wp2_with fail
  refine (rnumform_any n w (by omega)).mono ?_
  rintro e w2 ⟨A2, c2, rfl, ho2, hb2⟩
  have h0 : Hid (RBldW L w w2 0 [] (.slice A2 (num n).length c2)) := ⟨num n, ho2, hb2, by rw [← Hn.out]; exact BldAt.start L⟩
  clear ho2 hb2
  go_wp2_with fail
  go_loopg [4, 5, 6] n (fun g o s i wr => g ≤ n ∧ i = .int .i64 ((n - g : Nat) : Int) ∧ ∃ a : List UInt8, s = S8 a ∧ Hid (RBldW L w wr (n - g) a o))
  case atStart => exact ⟨Nat.le_refl _, by simp, [], rfl, by rw [Nat.sub_self]; exact h0⟩
  case round =>
    obtain ⟨hk, rfl, a, rfl, hR⟩ := hrel
    obtain ⟨k, hkk⟩ : ∃ k, n - gk = k := ⟨_, rfl⟩
    rw [hkk] at hR ⊢
    obtain ⟨F, ho, hB, hD⟩ := hR.out
    obtain ⟨A1, c1, rfl, -⟩ := Own.form ho
    have hF := hD.2.2.1
    have ha := hD.2.2.2
    have HR := Lib.hid (And.intro ho (And.intro hB hD))
    clear hR ho hB hD
    by_cases hk0 : gk = 0
    · obtain rfl : k = n := by omega
      have hr := Lib.hid (HR.out.2.2.done Hn.out.symm (by rw [Hn.out]; omega))
      go_wp2_with fail
      go_ret2
      exact ⟨A1, F.length, c1, by rw [hr.out.1]; rfl, by rw [hr.out.2]; exact HR.out.1, HR.out.2.1⟩
    · have hlt : k < n := by omega
      have hki : (k : Int) < (n : Int) := by omega
      have hgi : Hid (n - (gk - 1) = k + 1) := show _ = _ by omega
      obtain ⟨b, off, x, rfl, hbg, hx, hc0, hxl⟩ := HA.out.get (k := k) (by rw [Hn.out]; exact hlt)
      have hc := (HR.out.2.1.cell (p := ⟨b, off + k, none⟩) hbg).trans hc0
      have HC := Lib.hid (And.intro hbg (And.intro hx hc0))
      clear hx hbg hc0
      by_cases hx4 : 400 < x.length
      · have hx4i : (400 : Int) < (x.length : Int) := by omega
        have hf : followsS k a x = 4 := by unfold followsS; rw [if_pos hx4]
        have hr := Lib.hid (HR.out.2.2.no HC.out.2.1 (by rw [hf]; decide) (by rw [Hn.out]; omega))
        rw [hf] at hr
        clear hf
        go_wp2_with fail
        go_ret2
        exact ⟨none, 0, 0, by rw [hr.out.1]; rfl, by rw [hr.out.2]; exact Own.nil_ _ _, HR.out.2.1⟩
      have hx4i : (x.length : Int) ≤ 400 := by omega
      by_cases hbad : 0 < k ∧ (Op.bytesLess x a || x == a) = true
      · obtain ⟨h0, hq⟩ := hbad
        have h0i : (0 : Int) < (k : Int) := by omega
        have hf : followsS k a x = 9 := by unfold followsS; rw [if_neg hx4, if_pos ⟨h0i, hq⟩]
        have hr := Lib.hid (HR.out.2.2.no HC.out.2.1 (by rw [hf]; decide) (by rw [Hn.out]; omega))
        rw [hf] at hr
        clear hf
        go_wp2_with fail
        all_goals (
          go_ret2
          exact ⟨none, 0, 0, by rw [hr.out.1]; rfl, by rw [hr.out.2]; exact Own.nil_ _ _, HR.out.2.1⟩)
      · have hf := Lib.hid (show followsS k a x = 0 by unfold followsS; rw [if_neg hx4, if_neg (fun h => hbad ⟨by omega, h.2⟩)])
        have hs' := sharedS_le k a x
        have hS := rshared_any k a x
        have hdl : (x.drop (sharedS k a x)).length ≤ x.length := by rw [List.length_drop]; omega
        have hY := Lib.hid (HR.out.2.2.yes HC.out.2.1 hf.out rfl)
        have hd := str_drop x (sharedS k a x)
        generalize sharedS k a x = m at *
        have hn9 := num_length m
        have hn10 := num_length (x.drop m).length
        have HS := Lib.hid hS
        have Hrn := Lib.hid (rnumform_any m)
        have Hrt := Lib.hid (rtextform_any (x.drop m))
        clear hS
        generalize hT : num (x.drop m).length ++ x.drop m = T at *
        have hM1 : 0 < (num m).length := by rw [num_len]; omega
        generalize hM : num m = M at *
        have hTl : T.length ≤ (num (x.drop m).length).length + (x.drop m).length := by rw [← hT, List.length_append]; omega
        have HTM := Lib.hid (And.intro hT hM)
        clear hT hM
        by_cases h0 : 0 < k
        · have h0i : (0 : Int) < (k : Int) := by omega
          have hq : (Op.bytesLess x a || x == a) = false := by
            cases h : (Op.bytesLess x a || x == a) with
            | false => rfl
            | true => exact absurd ⟨h0, h⟩ hbad
          clear hbad
          go_wp2_with fail
          refine (HS.out wr (by omega) (by omega) hxl).mono ?_
          rintro e w3 ⟨rfl, hb3⟩
          have B3 := Lib.hid (HR.out.2.1.trans (hb3.mono HR.out.2.1.size))
          have O3 := Lib.hid (HR.out.1.new_ hb3)
          clear hb3 hc
          have hc := (B3.out.cell (p := ⟨b, off + k, none⟩) HC.out.1).trans HC.out.2.2
          go_wp2_with fail
          refine (Hrn.out w3 (by omega)).mono ?_
          rintro e w4 ⟨A4, c4, rfl, ho4, hb4⟩
          have B4 := Lib.hid (B3.out.trans (hb4.mono B3.out.size))
          have O4 := Lib.hid (O3.out.new_ hb4)
          have P4 := Lib.hid ho4
          clear ho4 hb4 hc
          go_wp2_with (at_builtin; go_loud (refine wpList_append_bytes_at rfl (.tmp 44) (.tmp 47) rfl w.heap.size (.slice A1 F.length c1) F rfl O4.out _ A4 c4 M rfl P4.out.bytes.1 (by omega) B4.out.size hM1 ?_)
                       intro g5 c5 w5 ho5 hg5 hat5
                       rw [show (F ++ M).length = F.length + M.length by simp] at ho5 ⊢
                       have B5 := Lib.hid (B4.out.grown hg5 B4.out.size (fun q e => (World.ownsRow.lt O4.out q e).1))
                       have O5 := Lib.hid ho5
                       clear ho5 hat5 hg5
                       have hc := (B5.out.cell (p := ⟨b, off + k, none⟩) HC.out.1).trans HC.out.2.2)
          refine (Hrt.out w5 (by omega)).mono ?_
          rintro e w6 ⟨A6, c6, rfl, ho6, hb6⟩
          have B6 := Lib.hid (B5.out.trans (hb6.mono B5.out.size))
          have O6 := Lib.hid (O5.out.new_ hb6)
          have P6 := Lib.hid ho6
          clear ho6 hb6 hc
          go_wp2_with (at_builtin; go_loud (refine wpList_append_bytes_form rfl (.tmp 49) (.tmp 56) rfl w.heap.size (.slice (some ⟨g5, 0, none⟩) (F.length + M.length) c5) (F ++ M) rfl O6.out _ A6 c6 T rfl P6.out.bytes.1 (by simp; omega) B6.out.size ?_)
                       intro A7 c7 w7 ho7 hg7 hat7
                       have B7 := Lib.hid (B6.out.grown hg7 B6.out.size (fun q e => (World.ownsRow.lt O6.out q e).1))
                       have O7 := Lib.hid ho7
                       clear ho7 hat7 hg7
                       have hc := (B7.out.cell (p := ⟨b, off + k, none⟩) HC.out.1).trans HC.out.2.2)
          go_roundg (gk - 1)
          case measure => omega
          case rel =>
            refine ⟨by omega, by rw [hgi.out]; congr 1, x, rfl, ?_⟩
            rw [hgi.out]
            refine ⟨F ++ M ++ T, by have h := O7.out; rw [show (F ++ M ++ T).length = F.length + (M.length + T.length) by simp] at h; exact h, B7.out, hY.out⟩
        · have h0i : (k : Int) ≤ 0 := by omega
          clear hbad
          go_wp2_with fail
          refine (HS.out wr (by omega) (by omega) hxl).mono ?_
          rintro e w3 ⟨rfl, hb3⟩
          have B3 := Lib.hid (HR.out.2.1.trans (hb3.mono HR.out.2.1.size))
          have O3 := Lib.hid (HR.out.1.new_ hb3)
          clear hb3 hc
          have hc := (B3.out.cell (p := ⟨b, off + k, none⟩) HC.out.1).trans HC.out.2.2
          go_wp2_with fail
          refine (Hrn.out w3 (by omega)).mono ?_
          rintro e w4 ⟨A4, c4, rfl, ho4, hb4⟩
          have B4 := Lib.hid (B3.out.trans (hb4.mono B3.out.size))
          have O4 := Lib.hid (O3.out.new_ hb4)
          have P4 := Lib.hid ho4
          clear ho4 hb4 hc
          go_wp2_with (at_builtin; go_loud (refine wpList_append_bytes_at rfl (.tmp 44) (.tmp 47) rfl w.heap.size (.slice A1 F.length c1) F rfl O4.out _ A4 c4 M rfl P4.out.bytes.1 (by omega) B4.out.size hM1 ?_)
                       intro g5 c5 w5 ho5 hg5 hat5
                       rw [show (F ++ M).length = F.length + M.length by simp] at ho5 ⊢
                       have B5 := Lib.hid (B4.out.grown hg5 B4.out.size (fun q e => (World.ownsRow.lt O4.out q e).1))
                       have O5 := Lib.hid ho5
                       clear ho5 hat5 hg5
                       have hc := (B5.out.cell (p := ⟨b, off + k, none⟩) HC.out.1).trans HC.out.2.2)
          refine (Hrt.out w5 (by omega)).mono ?_
          rintro e w6 ⟨A6, c6, rfl, ho6, hb6⟩
          have B6 := Lib.hid (B5.out.trans (hb6.mono B5.out.size))
          have O6 := Lib.hid (O5.out.new_ hb6)
          have P6 := Lib.hid ho6
          clear ho6 hb6 hc
          go_wp2_with (at_builtin; go_loud (refine wpList_append_bytes_form rfl (.tmp 49) (.tmp 56) rfl w.heap.size (.slice (some ⟨g5, 0, none⟩) (F.length + M.length) c5) (F ++ M) rfl O6.out _ A6 c6 T rfl P6.out.bytes.1 (by simp; omega) B6.out.size ?_)
                       intro A7 c7 w7 ho7 hg7 hat7
                       have B7 := Lib.hid (B6.out.grown hg7 B6.out.size (fun q e => (World.ownsRow.lt O6.out q e).1))
                       have O7 := Lib.hid ho7
                       clear ho7 hat7 hg7
                       have hc := (B7.out.cell (p := ⟨b, off + k, none⟩) HC.out.1).trans HC.out.2.2)
          go_roundg (gk - 1)
          case measure => omega
          case rel =>
            refine ⟨by omega, by rw [hgi.out]; congr 1, x, rfl, ?_⟩
            rw [hgi.out]
            refine ⟨F ++ M ++ T, by have h := O7.out; rw [show (F ++ M ++ T).length = F.length + (M.length + T.length) by simp] at h; exact h, B7.out, hY.out⟩
end Go.Proofs.Ytegpoghgddjmaaa
