/- The walk of the law NetMost: 4096 messages are sent; no more go. -/
import Derived.Test.YtegpoghgddjmaaaAwake23
namespace Go.Proofs.Ytegpoghgddjmaaa
open Go.RowKit
set_option maxRecDepth 100000

/-- The net at g holds k messages like the one at p; v is its slice. -/
structure NM (w wr : World) (g p : Nat) (H : Int) (k : Nat) (v : Value) (M : List Ms) : Prop where
  N : OwnN wr g v M
  len : M.length = k
  all : ∀ m ∈ M, m.a = true ∧ m.h = H ∧ m.n = 0 ∧ m.l = []
  mc : MC wr p true H (.slice none 0 0)
  lt : p < wr.heap.size
  gp : p ≠ g
  vp : v.ownBlock ≠ some p
  below : Below w.heap.size w wr
  gw : w.heap.size ≤ g
theorem NM.grew {w wr w' : World} {g p k : Nat} {H : Int} {v v' : Value} {M M' : List Ms} (h : NM w wr g p H k v M) (hN : OwnN w' g v' M') (hG : Grew wr w' g v v') (hall : ∀ m ∈ M', m.a = true ∧ m.h = H ∧ m.n = 0 ∧ m.l = []) : NM w w' g p H M'.length v' M' :=
  ⟨hN, rfl, hall, h.mc.keep (hG.block p h.lt h.gp h.vp), Nat.lt_of_lt_of_le h.lt hG.size, h.gp, fun e => by
    rcases hG.own with e2 | ⟨q, e2, hq⟩
    · exact h.vp (e2 ▸ e)
    · rw [e2] at e; injection e with e; have := h.lt; omega, hG.newN h.N h.gw h.below, h.gw⟩
theorem NM.new_ {w wr w' : World} {g p k : Nat} {H : Int} {v : Value} {M : List Ms} (h : NM w wr g p H k v M) (hb : Below wr.heap.size wr w') : NM w w' g p H k v M := by
  have h2 := h.grew (h.N.new_ hb) (Grew.of_below hb g v) h.all
  rw [h.len] at h2
  exact h2
theorem NM.sent {w wr w' : World} {g p k : Nat} {H : Int} {v v' : Value} {M : List Ms} {A' : Option Addr} {c' : Nat} (h : NM w wr g p H k v M) (hN : OwnN w' g v' (M ++ [⟨true, H, A', 0, c', []⟩])) (hG : Grew wr w' g v v') : NM w w' g p H (k + 1) v' (M ++ [⟨true, H, A', 0, c', []⟩]) := by
  have h2 := h.grew hN hG (fun m hm => by
    rcases List.mem_append.1 hm with hm | hm
    · exact h.all m hm
    · obtain rfl := List.mem_singleton.1 hm
      exact ⟨rfl, rfl, rfl, rfl⟩)
  rw [List.length_append, h.len] at h2
  exact h2
set_option maxHeartbeats 4000000 in
theorem netMost_law (h : Int) (w : World) (h0 : -9223372036854775808 ≤ h) (h1 : h ≤ 9223372036854775807) :
    Calls Try.prog 6 #[.int .i64 h] w fun e w' => e = .returned (.bool true) ∧ Below w.heap.size w w' := by
  go_enter Try.func6, Try.ntmps6
  go_wp2_with fail
  refine (awake23_any w).mono ?_
  rintro e w1 ⟨rfl, hB1⟩
  have H1 := Lib.hid hB1
  clear hB1
  go_wp2_with fail
  refine (nnew_any w1).mono ?_
  rintro e w2 ⟨rfl, hN2, hB2⟩
  have H2 := Lib.hid (And.intro hN2 (H1.out.trans (hB2.mono H1.out.size)))
  have hgw := H1.out.size
  clear hN2 hB2 H1
  generalize w1.heap.size = g at *
  go_upto_region 5 with fail
  obtain ⟨y, hy⟩ : ∃ y : Int, (if h < 0 then 0 else h) = y := ⟨_, rfl⟩
  obtain ⟨H, hH⟩ : ∃ H : Int, (if 1000 < y then 1000 else y) = H := ⟨_, rfl⟩
  have hH2 : 0 ≤ H ∧ H ≤ 1000 := by split at hy <;> split at hH <;> omega
  rw [hy, hH]
  have hr : Hid (rightS true H 0 = true) := by simp [rightS]; exact ⟨hH2.1, by omega⟩
  clear hy hH
  have hb3 := na (nr w2) (.cells #[.bool true, .int .i64 H, .slice none 0 0] 54)
  have HN : Hid (∃ v M, NM w (w2.alloc (.cells #[.bool true, .int .i64 H, .slice none 0 0] 54)) g w2.heap.size H 0 v M) :=
    ⟨_, _, H2.out.1.new_ hb3, rfl, fun m hm => (by cases hm), MC.made _ _ _ _ _, by simp, by have := H2.out.1.lt; omega, by simp [Value.ownBlock], belowN hb3 H2.out.1 hgw H2.out.2, hgw⟩
  clear H2 hb3 hgw
  generalize w2.alloc (.cells #[.bool true, .int .i64 H, .slice none 0 0] 54) = W3 at *
  generalize w2.heap.size = p at *
  go_wp2_with fail
  go_loopg [5] 4096 (fun k i wr => k ≤ 4096 ∧ i = .int .i64 ((4096 - k : Nat) : Int) ∧ Hid (∃ v M, NM w wr g p H (4096 - k) v M))
  case atStart => exact ⟨Nat.le_refl _, by simp, HN⟩
  case round =>
    obtain ⟨hkb, rfl, hR⟩ := hrel
    obtain ⟨i, hii⟩ : ∃ i, 4096 - gk = i := ⟨_, rfl⟩
    rw [hii] at ⊢ hR
    obtain ⟨v, M, hM⟩ := hR.out
    obtain ⟨p0, p1, p2, -, -, -⟩ := hM.mc
    have HM := Lib.hid hM
    clear hM hR HN
    by_cases hk : gk = 0
    · obtain rfl : i = 4096 := by omega
      go_wp2_with fail
      refine (nsend_no g v M true H none 0 0 wr HM.out.N (by decide) (.inl HM.out.len)).mono ?_
      rintro e w4 ⟨rfl, -, hB4⟩
      have H4 := Lib.hid (HM.out.new_ hB4)
      clear hB4 HM
      obtain ⟨M0, m, rfl, hM0⟩ : ∃ M0 m, M = M0 ++ [m] ∧ M0.length = 4095 := by
        have hl := H4.out.len
        have hne : M ≠ [] := fun e => by rw [e] at hl; cases hl
        refine ⟨M.dropLast, M.getLast hne, (List.dropLast_concat_getLast hne).symm, ?_⟩
        rw [List.length_dropLast, hl]
      obtain ⟨m0, hm0⟩ : ∃ m0, M0[0]? = some m0 := ⟨_, List.getElem?_eq_getElem (by rw [hM0]; decide)⟩
      have hm0' : (M0 ++ [m])[0]? = some m0 := by rw [List.getElem?_append_left (by rw [hM0]; decide)]; exact hm0
      obtain ⟨z1, z2, z3, z4⟩ := H4.out.all m0 (List.mem_of_getElem? hm0')
      obtain ⟨q, cap, rfl, -⟩ := H4.out.N.cells hm0'
      have Hm := Lib.hid (And.intro hm0' (And.intro hm0 hM0))
      clear hm0' hm0 hM0
      go_wp2_with fail
      refine (ndouble_full g _ _ 0 m0 _ H4.out.N Hm.out.1 (by rw [z3]; decide) H4.out.len).mono ?_
      rintro e w5 ⟨rfl, -, hB5⟩
      have H5 := Lib.hid (H4.out.new_ hB5)
      clear hB5 H4
      go_wp2_with fail
      refine (nlen_any g _ _ _ _ H5.out.N.c).mono ?_
      rintro e w' ⟨rfl, rfl⟩
      have hl5 := H5.out.len
      rw [hl5]
      clear hl5
      go_wp2_with fail
      have h6 := H5.out.N
      have hl6 : (M0 ++ [m]).length = M0.length + 1 := by rw [List.length_append]; rfl
      rw [hl6] at h6
      have hlm := (H5.out.all m (List.mem_append_right _ (List.mem_singleton.2 rfl))).2.2.1
      have h7 := ntake_last g q cap M0 m w' h6 (by rw [hlm]; decide)
      rw [Hm.out.2.2] at h7
      refine h7.mono ?_
      rintro e w8 ⟨A8, c8, rfl, hN8, hG8, -, -⟩
      rw [← hl6] at hG8
      have hb9 := na (nr w8) (.cells #[.bool m.a, .int .i64 m.h, .slice A8 m.n c8] 54)
      have H8 := Lib.hid ((H5.out.grew hN8 hG8 (fun x hx => H5.out.all x (List.mem_append_left _ hx))).new_ hb9)
      clear h7 h6 hN8 hG8 hb9 H5 hlm
      obtain ⟨m1, hm1⟩ : ∃ m1, M0[1]? = some m1 := ⟨_, List.getElem?_eq_getElem (by rw [Hm.out.2.2]; decide)⟩
      have hn1 := (H8.out.all m1 (List.mem_of_getElem? hm1)).2.2.1
      have Hm1 := Lib.hid (And.intro hm1 hn1)
      clear hm1 hn1
      go_wp2_with fail
      refine (ndouble_yes g _ M0 0 m0 _ H8.out.N Hm.out.2.1 (by rw [z3]; decide) (by rw [Hm.out.2.2]; decide) (by rw [z1, z2, z3]; exact hr.out)).mono ?_
      rintro e w10 ⟨rfl, v10, A10, c10, hN10, hG10⟩
      rw [z1, z2, z3, z4] at hN10
      have H10 := Lib.hid (H8.out.sent hN10 hG10)
      clear H8 hN10 hG10
      go_wp2_with fail
      refine (ndouble_full g _ _ 1 m1 _ H10.out.N (by rw [List.getElem?_append_left (by rw [Hm.out.2.2]; decide)]; exact Hm1.out.1) (by rw [Hm1.out.2]; decide) (by rw [H10.out.len, Hm.out.2.2])).mono ?_
      rintro e w11 ⟨rfl, -, hB11⟩
      have H11 := Lib.hid (H10.out.new_ hB11).below
      clear H10 hB11
      go_wp2_with fail
      go_ret
      exact ⟨rfl, H11.out⟩
    · have hlt : i < 4096 := by omega
      go_wp2_with fail
      refine (nsend_yes g v M true H none 0 0 [] wr HM.out.N (Bytes.nil_ _) rfl (fun _ => rfl) (by rw [HM.out.len]; exact hlt) hr.out (by decide)).mono ?_
      rintro e w4 ⟨rfl, v2, A2, c2, hN2, hG2⟩
      have H4 := Lib.hid (HM.out.sent hN2 hG2)
      clear hN2 hG2 HM
      go_wp2_with fail
      go_roundg (gk - 1)
      case measure => omega
      case rel => exact ⟨by omega, congrArg (Value.int .i64) (by omega), _, _, by rw [show 4096 - (gk - 1) = i + 1 by omega]; exact H4.out⟩
end Go.Proofs.Ytegpoghgddjmaaa
