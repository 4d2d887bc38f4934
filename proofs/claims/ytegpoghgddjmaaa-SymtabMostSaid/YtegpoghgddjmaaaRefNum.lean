/- The walks of the document's power, Others, GetNum. -/
import Derived.Test.YtegpoghgddjmaaaAwake02
import Derived.WalkMore
namespace Go.Proofs.Ytegpoghgddjmaaa
open Go.RowKit
set_option maxRecDepth 100000

/-- 2^n, closed to the walk. -/
def pw (n : Nat) : Nat := 2 ^ n
theorem power_any (n : Nat) (w : World) (hn : n ≤ 63) : Calls Try.prog 79 #[.int .i64 n] w fun e w' => w' = w ∧ e = .returned (.int .u64 (pw n : Nat)) := by
  go_enter Try.func79, Try.ntmps79
  go_wp2
  go_loop [3, 4] (fun p i => ∃ k : Nat, k ≤ n ∧ i = .int .i64 k ∧ p = .int .u64 (pw k : Nat)) (fun _ i => n - (intOf i).toNat)
  case atStart => exact ⟨0, by omega, rfl, rfl⟩
  case round =>
    obtain ⟨k, hk, rfl, rfl⟩ := hrel
    by_cases he : k = n
    · subst he
      go_wp2
      go_ret
      exact ⟨rfl, rfl⟩
    · have hlt : k < n := by omega
      have hp : pw k ≤ 4611686018427387904 := Nat.pow_le_pow_right (n := 2) (by decide) (show k ≤ 62 by omega)
      have Hs : Hid (2 * pw k = pw (k + 1)) := by unfold Hid pw; rw [Nat.pow_succ, Nat.mul_comm]
      generalize pw k = p at hp Hs ⊢
      go_wp2
      go_round
      case rel => exact ⟨k + 1, by omega, by go_num, by rw [← Hs.out]; congr 1⟩
      case measure => simp [intOf]; omega

theorem oth_below (v k : Nat) (hk : k < 8) : v < pw (7 + 7 * k) ↔ oth v ≤ k := by
  unfold pw
  have h : k = 0 ∨ k = 1 ∨ k = 2 ∨ k = 3 ∨ k = 4 ∨ k = 5 ∨ k = 6 ∨ k = 7 := by omega
  unfold oth
  rcases h with rfl | rfl | rfl | rfl | rfl | rfl | rfl | rfl
  all_goals simp only [Nat.reduceMul, Nat.reduceAdd, Nat.reducePow]
  all_goals (repeat' split)
  all_goals omega
theorem rothers_any (v : Nat) (w : World) : Calls Try.prog 78 #[.int .u64 v] w fun e w' => w' = w ∧ e = .returned (.int .i64 (oth v : Nat)) := by
  have h8 := oth_le v
  go_enter Try.func78, Try.ntmps78
  go_wp2
  go_loop [3] (fun i => ∃ k : Nat, k ≤ oth v ∧ i = .int .i64 k) (fun i => 8 - (intOf i).toNat)
  case atStart => exact ⟨0, by omega, rfl⟩
  case round =>
    obtain ⟨k, hk, rfl⟩ := hrel
    by_cases he : k = 8
    · subst he
      go_wp2
      go_ret
      exact ⟨rfl, by rw [show oth v = 8 by omega]; rfl⟩
    · have hb := oth_below v k (by omega)
      go_wp2_with fail
      refine (power_any (7 + 7 * k) w (by omega)).mono ?_
      rintro e w' ⟨rfl, rfl⟩
      have Hb := Lib.hid hb
      clear hb
      by_cases hs : oth v ≤ k
      · have hlt := Hb.out.2 hs
        have hlt' : (v : Int) < (pw (7 + 7 * k) : Int) := by omega
        clear hlt
        generalize pw (7 + 7 * k) = p at hlt' ⊢
        go_wp2_with fail
        go_ret
        exact ⟨rfl, by rw [show oth v = k by omega]; rfl⟩
      · have hlt : ¬ v < pw (7 + 7 * k) := fun h => hs (Hb.out.1 h)
        have hlt' : (pw (7 + 7 * k) : Int) ≤ (v : Int) := by omega
        clear hlt
        generalize pw (7 + 7 * k) = p at hlt' ⊢
        go_wp2_with fail
        go_round
        case rel => exact ⟨k + 1, by omega, by go_num⟩
        case measure => simp [intOf]; omega

def RGetPost (l : List UInt8) (at_ : Nat) (w : World) (e : Ending) (w' : World) : Prop :=
  e = .returned (.agg #[.int .u64 ((getNum (l.drop at_)).1 : Nat), .int .i64 ((getNum (l.drop at_)).2.1 : Nat), .int .i64 (getNum (l.drop at_)).2.2]) ∧ Below w.heap.size w w'
theorem RGetPost.of {l : List UInt8} {at_ v n : Nat} {k : Int} {w w' : World} {e : Ending} (h : getNum (l.drop at_) = (v, n, k)) (he : e = .returned (.agg #[.int .u64 v, .int .i64 n, .int .i64 k])) (hb : Below w.heap.size w w') : RGetPost l at_ w e w' := by
  unfold RGetPost
  rw [h]
  exact ⟨he, hb⟩
theorem begin_low {x : UInt8} {K p : Nat} (h : ones x.toNat = K) (hk : K < 8) (hp : pw (7 - K) = p) : (x.toNat : Int) % (p : Int) = ((begin_ x : Nat) : Int) := by
  unfold begin_
  rw [h, if_pos hk, ← hp]
  simp [pw]
theorem pw_says : ∀ x : Fin 256, ∀ k : Fin 8, k.val ≤ ones x.val → (x.val / pw (7 - k.val) % 2 = 1 ↔ k.val < ones x.val) ∧ 1 ≤ pw (7 - k.val) ∧ pw (7 - k.val) ≤ 128 := by decide +kernel

set_option maxHeartbeats 2000000 in
theorem rgetnum_any (A : Option Addr) (n cap : Nat) (l : List UInt8) (at_ : Nat) (w : World) (hA : Bytes w w.heap.size A l) (hn : l.length = n) (hl : n ≤ 140737488355328) (hat : at_ ≤ 140737488355328) :
    Calls Try.prog 33 #[.slice A n cap, .int .i64 at_] w (RGetPost l at_ w) := by
  by_cases h0 : n ≤ at_
  · have Hf : Hid (getNum (l.drop at_) = (0, 0, 2)) := by
      unfold Hid
      rw [List.drop_eq_nil_of_le (by omega)]
      rfl
    go_enter Try.func33, Try.ntmps33
    go_wp2
    exact bodyPost_ret (v := .agg #[.int .u64 0, .int .i64 0, .int .i64 2]) (by simp [results, Try.results33, go_sem]) rfl (RGetPost.of Hf.out rfl (((na (nr w) _))))
  · have hlt : at_ < l.length := by omega
    obtain ⟨b, off, x, rfl, hbg, hx, hcell⟩ := hA.at_ (k := at_) hlt
    have hxl := x.toNat_lt
    have h8 := ones_le x.toNat
    have Hx := Lib.hid (And.intro hx hA)
    clear hx hA
    go_enter Try.func33, Try.ntmps33
    go_wp2_with fail
    go_loop [6] (fun i => ∃ k : Nat, k ≤ ones x.toNat ∧ i = .int .i64 k) (fun i => 8 - (intOf i).toNat)
    case atStart => exact ⟨0, by omega, rfl⟩
    case round =>
      obtain ⟨k, hk, rfl⟩ := hrel
      by_cases hone : k < ones x.toNat
      · have hs := pw_says ⟨x.toNat, hxl⟩ ⟨k, by omega⟩ hk
        simp only at hs
        obtain ⟨hs1, hs2, hs3⟩ := hs
        have hs1 := hs1.2 hone
        go_wp2_with fail
        rw [show (7 : Int) - (k : Int) = ((7 - k : Nat) : Int) by omega]
        refine (power_any (7 - k) _ (by omega)).mono ?_
        rintro e w' ⟨rfl, rfl⟩
        generalize pw (7 - k) = p at hs1 hs2 hs3 ⊢
        obtain ⟨q, hq⟩ : ∃ q, x.toNat / p = q := ⟨_, rfl⟩
        rw [hq] at hs1
        have hq1 : (x.toNat : Int) / (p : Int) = (q : Int) := by rw [← hq]; simp
        have hq2 : q ≤ 255 := by rw [← hq]; exact Nat.le_trans (Nat.div_le_self _ _) (by omega)
        clear hq
        have hone' : (q : Int) % 2 = 1 := by omega
        clear hs1
        go_wp2_with fail
        exact ⟨⟨k + 1, by omega, by go_num⟩, by simp [intOf]; omega⟩
      · have HK : Hid (ones x.toNat = k) := show _ = _ by omega
        have hk8 : k ≤ 8 := by omega
        clear hone hk
        by_cases hsh : n - at_ ≤ k
        · have Hf := Lib.hid (get_short Hx.out.1 (by rw [HK.out, hn]; exact hsh))
          have hsh' : (n : Int) - (at_ : Int) - 1 < (k : Int) := by omega
          by_cases he : k = 8
          · subst he
            go_wp2_with fail
            exact bodyPost_ret (v := .agg #[.int .u64 0, .int .i64 0, .int .i64 2]) (by simp [results, Try.results33, go_sem]) rfl (RGetPost.of Hf.out rfl (((na (nr w) _))))
          · have hs := pw_says ⟨x.toNat, hxl⟩ ⟨k, by omega⟩ (by show k ≤ ones x.toNat; rw [HK.out]; exact Nat.le_refl _)
            simp only at hs
            obtain ⟨hs1, hs2, hs3⟩ := hs
            have hs1 : ¬ (x.toNat / pw (7 - k) % 2 = 1) := fun h => by have := hs1.1 h; rw [HK.out] at this; omega
            go_wp2_with fail
            rw [show (7 : Int) - (k : Int) = ((7 - k : Nat) : Int) by omega]
            refine (power_any (7 - k) _ (by omega)).mono ?_
            rintro e w' ⟨rfl, rfl⟩
            obtain ⟨p, hp⟩ : ∃ p, pw (7 - k) = p := ⟨_, rfl⟩
            rw [hp] at hs1 hs2 hs3 ⊢
            have Hp := Lib.hid hp
            clear hp
            obtain ⟨q, hq⟩ : ∃ q, x.toNat / p = q := ⟨_, rfl⟩
            rw [hq] at hs1
            have hq1 : (x.toNat : Int) / (p : Int) = (q : Int) := by rw [← hq]; simp
            have hq2 : q ≤ 255 := by rw [← hq]; exact Nat.le_trans (Nat.div_le_self _ _) (by omega)
            clear hq
            have hone' : (q : Int) % 2 = 0 := by omega
            clear hs1
            go_wp2_with fail
            exact bodyPost_ret (v := .agg #[.int .u64 0, .int .i64 0, .int .i64 2]) (by simp [results, Try.results33, go_sem]) rfl (RGetPost.of Hf.out rfl (((na (nr w) _))))
        · have hsh' : (k : Int) ≤ (n : Int) - (at_ : Int) - 1 := by omega
          have Hf := Lib.hid (get_full Hx.out.1 (by rw [HK.out, hn]; exact hsh))
          rw [HK.out] at Hf
          by_cases he : k = 8
          all_goals (first
            | (have he8 := he
               have hk9 : (8 : Int) ≤ (k : Int) := by omega
               go_wp2_with fail)
            | (
              have hs := pw_says ⟨x.toNat, hxl⟩ ⟨k, by omega⟩ (by show k ≤ ones x.toNat; rw [HK.out]; exact Nat.le_refl _)
              simp only at hs
              obtain ⟨hs1, hs2, hs3⟩ := hs
              have hs1 : ¬ (x.toNat / pw (7 - k) % 2 = 1) := fun h => by have := hs1.1 h; rw [HK.out] at this; omega
              go_wp2_with fail
              rw [show (7 : Int) - (k : Int) = ((7 - k : Nat) : Int) by omega]
              refine (power_any (7 - k) _ (by omega)).mono ?_
              rintro e w' ⟨rfl, rfl⟩
              obtain ⟨p, hp⟩ : ∃ p, pw (7 - k) = p := ⟨_, rfl⟩
              rw [hp] at hs1 hs2 hs3 ⊢
              have Hp := Lib.hid hp
              clear hp
              obtain ⟨q, hq⟩ : ∃ q, x.toNat / p = q := ⟨_, rfl⟩
              rw [hq] at hs1
              have hq1 : (x.toNat : Int) / (p : Int) = (q : Int) := by rw [← hq]; simp
              have hq2 : q ≤ 255 := by rw [← hq]; exact Nat.le_trans (Nat.div_le_self _ _) (by omega)
              clear hq
              have hone' : (q : Int) % 2 = 0 := by omega
              clear hs1
              go_wp2_with fail
              rw [show (7 : Int) - (k : Int) = ((7 - k : Nat) : Int) by omega]
              refine (power_any (7 - k) _ (by omega)).mono ?_
              rintro e w' ⟨rfl, rfl⟩
              rw [Hp.out]
              go_wp2_with fail
              rw [begin_low HK.out (by omega) Hp.out]))
          all_goals (
            go_loop [7, 8] (fun v i => ∃ j : Nat, j ≤ k ∧ i = .int .i64 ((j + 1 : Nat) : Int) ∧ v = .int .u64 ((beNum (begin_ x) ((l.drop (at_ + 1)).take j) : Nat) : Int)) (fun _ i => k + 1 - (intOf i).toNat)
            case atStart => exact ⟨0, by omega, rfl, by first | rfl | exact congrArg (Value.int .u64) (begin_full HK.out (by omega))⟩
            case round =>
              obtain ⟨j, hj, rfl, rfl⟩ := hrel
              by_cases hend2 : j = k
              · subst hend2
                have hacc : beNum (begin_ x) ((l.drop (at_ + 1)).take j) < 18446744073709551616 := acc_lt x _ 64 (by rw [List.length_take, List.length_drop, HK.out]; omega)
                generalize beNum (begin_ x) ((l.drop (at_ + 1)).take j) = acc at *
                have hge2 : (j : Int) < ((j + 1 : Nat) : Int) := by omega
                go_wp2_with fail
                refine (rothers_any acc _).mono ?_
                rintro e w' ⟨rfl, rfl⟩
                by_cases ho : oth acc = j
                · have Hf2 := Lib.hid (Hf.out.trans (if_neg (by rw [ho]; simp)))
                  rw [ho]
                  clear ho Hf
                  go_wp2_with fail
                  exact bodyPost_ret (v := .agg #[.int .u64 acc, .int .i64 ((1 + j : Nat) : Int), .int .i64 0]) (by simp [results, Try.results33, go_sem] <;> omega) rfl (RGetPost.of Hf2.out rfl (na (nr w) _))
                · have Hf2 := Lib.hid (Hf.out.trans (if_pos ho))
                  have hno : ((oth acc : Int) != (j : Int)) = true := by rw [bne_iff_ne]; omega
                  clear ho Hf
                  go_wp2_with fail
                  exact bodyPost_ret (v := .agg #[.int .u64 0, .int .i64 0, .int .i64 3]) (by simp [results, Try.results33, go_sem]) rfl (RGetPost.of Hf2.out rfl (((na (nr w) _))))
              · have hj' : j < k := by omega
                obtain ⟨b2, off2, y, e2, _, hy, hcy⟩ := Hx.out.2.at_ (k := at_ + 1 + j) (by omega)
                cases e2
                have hacc : beNum (begin_ x) ((l.drop (at_ + 1)).take j) < 72057594037927936 := acc_lt x _ 56 (by rw [List.length_take, HK.out]; omega)
                have hy' : (l.drop (at_ + 1))[j]? = some y := by rw [List.getElem?_drop]; exact hy
                have Hn := Lib.hid (beNum_snoc (begin_ x) _ j y hy')
                clear hy hy'
                generalize beNum (begin_ x) ((l.drop (at_ + 1)).take j) = acc at *
                rw [show off + (at_ + 1 + j) = off + (at_ + (j + 1)) by omega] at hcy
                have hyl := y.toNat_lt
                have hix : (at_ : Int) + ((j + 1 : Nat) : Int) < (n : Int) := by omega
                have hge2 : ((j + 1 : Nat) : Int) ≤ (k : Int) := by omega
                clear Hf
                go_wp2_with fail
                exact ⟨⟨j + 1, by omega, by congr 1, by rw [Hn.out]; congr 1⟩, by simp [intOf]; omega⟩)
end Go.Proofs.Ytegpoghgddjmaaa
