/- The law SymtabMost, walked. -/
import Derived.Test.YtegpoghgddjmaaaSymAwake
import Derived.Test.YtegpoghgddjmaaaSymAll
namespace Go.Proofs.Ytegpoghgddjmaaa
open Go.RowKit
set_option maxRecDepth 100000

/-- The law's own texts. -/
def tx (i : Nat) : List UInt8 := [UInt8.ofNat (i / 256), UInt8.ofNat (i % 256)]
def mostL (n : Nat) : List (List UInt8) := (List.range n).map tx
theorem mostL_length (n : Nat) : (mostL n).length = n := by unfold mostL; simp
theorem mostL_txt {n i : Nat} (h : i < n) : txt (mostL n) i = tx i := by
  unfold txt mostL
  simp [h]
theorem tx_less {i j : Nat} (h : i < j) (hj : j < 65536) : tx i < tx j := by
  unfold tx
  rw [List.cons_lt_cons_iff, List.cons_lt_cons_iff]
  have n1 : (UInt8.ofNat (i / 256)).toNat = i / 256 := by rw [UInt8.toNat_ofNat']; omega
  have n2 : (UInt8.ofNat (j / 256)).toNat = j / 256 := by rw [UInt8.toNat_ofNat']; omega
  have n3 : (UInt8.ofNat (i % 256)).toNat = i % 256 := by rw [UInt8.toNat_ofNat']; omega
  have n4 : (UInt8.ofNat (j % 256)).toNat = j % 256 := by rw [UInt8.toNat_ofNat']; omega
  by_cases e : i / 256 = j / 256
  · right
    refine ⟨by rw [e], .inl ?_⟩
    rw [UInt8.lt_iff_toNat_lt, n3, n4]
    omega
  · left
    rw [UInt8.lt_iff_toNat_lt, n1, n2]
    omega
theorem mostL_order {n : Nat} (h : n ≤ 4097) : (mostL n).Pairwise (· < ·) := by
  unfold mostL
  rw [List.pairwise_map]
  refine List.Pairwise.imp_of_mem (fun {a b} ha hb hab => ?_) List.pairwise_lt_range
  have := List.mem_range.1 hb
  exact tx_less hab (by omega)
theorem errS_zero : ∀ (r : List (List UInt8)) (i : Nat) (a : List UInt8), (0 < i → ∀ x ∈ r, a < x) → r.Pairwise (· < ·) → (∀ x ∈ r, x.length ≤ 400) → errS i a r = 0
  | [], _, _, _, _, _ => rfl
  | s :: r, i, a, h1, h2, h3 => by
    obtain ⟨h4, h5⟩ := List.pairwise_cons.1 h2
    have hf : followsS i a s = 0 := by
      unfold followsS
      have hl := h3 s (by simp)
      rw [if_neg (by omega), if_neg]
      rintro ⟨hi, hb⟩
      have has := h1 (by omega) s (by simp)
      rw [bytesLess_eq, Bool.or_eq_true, decide_eq_true_iff, beq_iff_eq] at hb
      rcases hb with hb | hb
      · exact List.lt_irrefl _ (List.lt_trans hb has)
      · rw [hb] at has; exact List.lt_irrefl _ has
    rw [errS_cons, if_pos hf]
    exact errS_zero r (i + 1) s (fun _ => h4) h5 (fun x hx => h3 x (by simp [hx]))
theorem mostL_small {n : Nat} : ∀ x ∈ mostL n, x.length ≤ 400 := by
  intro x hx
  unfold mostL at hx
  obtain ⟨i, _, rfl⟩ := List.mem_map.1 hx
  unfold tx
  simp
theorem mostL_e {n : Nat} (h : n ≤ 4096) : buildE (mostL n) = 0 := by
  unfold buildE
  rw [mostL_length, if_neg (by omega)]
  exact errS_zero _ _ _ (fun h => by omega) (mostL_order (by omega)) mostL_small
theorem mostL_below {n : Nat} (h : 2049 ≤ n) (h2 : n ≤ 4096) : belowS (mostL n) [8, 0] = 2048 := by
  have h1 := below_iff (s := [8, 0]) (mostL_order (n := n) (by omega)) 2047 (by rw [mostL_length]; omega)
  have h3 := below_iff (s := [8, 0]) (mostL_order (n := n) (by omega)) 2048 (by rw [mostL_length]; omega)
  rw [mostL_txt (by omega)] at h1 h3
  have k1 : tx 2047 < [8, 0] := by decide +kernel
  have k3 : ¬ tx 2048 < [8, 0] := by decide +kernel
  have := h1.1 k1
  have : ¬ 2048 < belowS (mostL n) [8, 0] := fun k => k3 (h3.2 k)
  omega
set_option maxHeartbeats 8000000 in
theorem symtabMost_law (z : Int) (w : World) (hz1 : -9223372036854775808 ≤ z) (hz2 : z ≤ 9223372036854775807) :
    Calls Try.prog 12 #[.int .i64 z] w fun e w' => e = .returned (.bool true) ∧ Below w.heap.size w w' := by
  go_enter Try.func12, Try.ntmps12
  go_wp2_with fail
  refine (awake34_any w).mono ?_
  rintro e w1 ⟨rfl, hb1⟩
  have H1 := Lib.hid hb1
  clear hb1
  by_cases hlo : z < -1
  · go_wp2_with fail
    go_ret
    exact ⟨rfl, H1.out⟩
  by_cases hhi : 1 < z
  · have hlo' : -1 ≤ z := by omega
    go_wp2_with fail
    go_ret
    exact ⟨rfl, H1.out⟩
  have hlo' : -1 ≤ z := by omega
  have hhi' : z ≤ 1 := by omega
  obtain ⟨n, hzn⟩ : ∃ n : Nat, (4096 : Int) + z = (n : Int) := ⟨(4096 + z).toNat, by omega⟩
  have hn1 : 4095 ≤ n := by omega
  have hn2 : n ≤ 4097 := by omega
  have h0 : Hid (AllAt (mostL n) w w1 0 (.slice none 0 0)) := ⟨World.ownsRow_nil _ _ _ _, H1.out⟩
  clear hlo hhi
  go_wp2_with fail
  go_loopg [3, 4] n (fun g o i wr => g ≤ n ∧ i = .int .i64 ((n - g : Nat) : Int) ∧ Hid (AllAt (mostL n) w wr (n - g) o))
  case atStart => exact ⟨Nat.le_refl _, by simp, by rw [Nat.sub_self]; exact h0⟩
  case round =>
    obtain ⟨hk, rfl, hR⟩ := hrel
    obtain ⟨o, ho_⟩ : ∃ o, o = u3 := ⟨_, rfl⟩
    subst ho_
    obtain ⟨k, hkk⟩ : ∃ k, n - gk = k := ⟨_, rfl⟩
    rw [hkk] at hR ⊢
    have HR := Lib.hid hR.out
    clear hR
    by_cases hk0 : gk = 0
    · obtain rfl : k = n := by omega
      obtain ⟨ho, hB⟩ := HR.out
      rw [List.take_of_length_le (by rw [mostL_length]; omega)] at ho
      have hl := mostL_length k
      unfold OwnS at ho
      rw [hl] at ho
      obtain ⟨A1, C1, rfl⟩ := ownsRow_form ho
      have ho : OwnS wr w.heap.size (.slice A1 k C1) (mostL k) := by unfold OwnS; rw [hl]; exact ho
      have hs := OwnS.strs ho (fun j l hj => by have := mostL_small l (List.mem_of_getElem? hj); omega)
      have Hb := Lib.hid (build_any A1 k C1 (mostL k) wr hs hl (by omega))
      have HB := Lib.hid hB
      have Hord := Lib.hid (mostL_order (n := k) (by omega))
      clear ho hs hB HR hl h0
      go_wp2_with fail
      refine Hb.out.mono ?_
      rintro e w5 ⟨A5, n5, c5, rfl, ho5, hb5⟩
      obtain ⟨hby5, hn5, hc5⟩ := build_bytes ho5
      have H5 := Lib.hid (And.intro (nt HB.out hb5) (And.intro hby5 (And.intro hn5 hc5)))
      clear ho5 hb5 hby5 hn5 hc5
      by_cases hk4 : k = 4097
      · have he : buildE (mostL k) = 4 := by unfold buildE; rw [mostL_length, if_pos (by omega)]
        have hr : buildR (mostL k) = [] := by unfold buildR; rw [he]; rfl
        have hz0 : (0 : Int) < z := by omega
        obtain rfl : n5 = 0 := by rw [← H5.out.2.2.1, hr]; rfl
        rw [he]
        clear he hr
        go_wp2_with fail
        go_ret
        exact ⟨rfl, H5.out.1⟩
      · have hk4' : k ≤ 4096 := by omega
        have hz0 : z ≤ 0 := by omega
        have he := mostL_e hk4'
        have Hop := Lib.hid (open_any A5 n5 c5 (buildR (mostL k)) w5 H5.out.2.1 H5.out.2.2.1 (by rw [← H5.out.2.2.1]; exact buildR_len _) H5.out.2.2.2)
        have He := Lib.hid he
        have Hbel := Lib.hid (mostL_below (n := k) (by omega) hk4')
        rw [he]
        clear he
        go_wp2_with fail
        refine Hop.out.mono ?_
        rintro e w6 hpost
        obtain ⟨g, v, xs, rfl, hT, hl4, hb6⟩ := hpost.yes (buildR_built He.out)
        have H6 := Lib.hid (And.intro (nt H5.out.1 hb6) hT)
        clear hpost hT hb6
        have hlen := len_any g (mostL k) v xs w6 H6.out.2
        rw [mostL_length] at hlen
        have Hlen := Lib.hid hlen
        have Hbl := Lib.hid (below_any g (mostL k) [8, 0] v xs w6 H6.out.2 hl4 Hord.out)
        clear hlen
        go_wp2_with fail
        refine Hlen.out.mono ?_
        rintro e w7 ⟨rfl, rfl⟩
        go_wp2_with fail
        refine Hbl.out.mono ?_
        rintro e w8 ⟨rfl, hb8⟩
        have H8 := Lib.hid (nt H6.out.1 hb8)
        rw [Hbel.out]
        clear hb8
        go_wp2_with fail
        go_ret
        exact ⟨rfl, H8.out⟩
    · have hkn : k < n := by omega
      have hki : (k : Int) < (n : Int) := by omega
      have hgi : Hid (n - (gk - 1) = k + 1) := show _ = _ by omega
      obtain ⟨A3, C3, rfl⟩ := ownsRow_form HR.out.1
      have htl : ((mostL n).take k).length ≤ 4096 := by rw [List.length_take]; omega
      have Hown := Lib.hid (show wr.ownsRow w.heap.size 9 1 _ _ _ from HR.out.1)
      generalize hTT : (mostL n).take k = T at *
      have HTT := Lib.hid hTT
      clear hTT
      obtain ⟨x, hx⟩ : ∃ x, UInt8.ofNat (k / 256) = x := ⟨_, rfl⟩
      obtain ⟨y, hy⟩ : ∃ y, UInt8.ofNat (k % 256) = y := ⟨_, rfl⟩
      have Htx := Lib.hid (show txt (mostL n) k = [x, y] by rw [mostL_txt hkn]; unfold tx; rw [hx, hy])
      have hx1 : (k : Int) / 256 = (x.toNat : Int) := by rw [← hx, UInt8.toNat_ofNat']; omega
      have hy1 : (k : Int) % 256 = (y.toNat : Int) := by rw [← hy, UInt8.toNat_ofNat']; omega
      have r1 := run_str (wr.alloc (.cells #[B8 x, B8 y] 5)) _ (some ⟨wr.heap.size, 0, none⟩) 2 2 [x, y] (Bytes.new wr #[B8 x, B8 y] 5 (0, 0) [x, y] rfl) rfl
      have hnew : ((wr.alloc (.cells #[B8 x, B8 y] 5)).alloc (.cells #[S8 [x, y]] 9)).cell? ⟨wr.heap.size + 1, 0, none⟩ = some (S8 [x, y]) := by
        have := cell_of_row _ _ 0 _ _ _ (heap_alloc_new (wr.alloc (.cells #[B8 x, B8 y] 5)) (.cells #[S8 [x, y]] 9))
        rw [World.size_alloc] at this
        exact this
      have Hnew := Lib.hid hnew
      clear hx hy hnew
      go_wp2_with (at_builtin; go_loud (refine wpList_append_one rfl (.tmp 23) (.tmp 32) 78 9 (.string ⟨#[]⟩) 16 rfl Try.underlying78 strInfo rfl w.heap.size (.slice A3 T.length C3) T.length (T.map S8) rfl (ownsRow_new Hown.out (na (na (nr wr) _) _)) ⟨wr.heap.size + 1, 0, none⟩ 1 (S8 [x, y]) rfl Hnew.out rfl (by simp only [maxLen]; omega) (by omega) (by have := HR.out.2.size; simp; omega) ?_)
                   intro g4 c4 w4 ho4 hg4 hat4
                   have h4 := HR.out.step (by rw [mostL_length]; exact hkn) (na (na (nr wr) _) _) (by rw [HTT.out, Htx.out]; exact ho4) hg4
                   rw [HTT.out] at h4
                   have H4 := Lib.hid h4
                   clear ho4 hg4 hat4 h4)
      go_roundg (gk - 1)
      case measure => omega
      case rel =>
        refine ⟨by omega, by rw [hgi.out]; congr 1, ?_⟩
        rw [hgi.out]
        exact H4.out
end Go.Proofs.Ytegpoghgddjmaaa
