/- The walks of the document's GetFix, Zag. -/
import Derived.Test.YtegpoghgddjmaaaRefNum
import Derived.Test.YtegpoghgddjmaaaReader3
namespace Go.Proofs.Ytegpoghgddjmaaa
open Go.RowKit
set_option maxRecDepth 100000

theorem rzag_any (v : Nat) (w : World) (hv : v < 18446744073709551616) : Calls Try.prog 53 #[.int .u64 v] w fun e w' => w' = w ∧ e = .returned (.int .i64 (zag (v : Nat))) := by
  unfold zag
  by_cases h : (v : Int) % 2 = 0
  · rw [if_pos h]
    go_enter Try.func53, Try.ntmps53
    go_wp2
    go_ret
    exact ⟨rfl, rfl⟩
  · rw [if_neg h]
    have hb : (((v : Int) % 2) == 0) = false := by rw [beq_eq_false_iff_ne]; exact h
    go_enter Try.func53, Try.ntmps53
    go_wp2
    go_ret
    exact ⟨rfl, rfl⟩

/-- The fixed number that bytes begin with. -/
def getFix (b : List UInt8) : Nat × Nat × Int := if b.length < 8 then (0, 0, 2) else (leNum (b.take 8), 8, 0)
theorem leNum_drop {X : List UInt8} {j : Nat} {y : UInt8} (h : X[j]? = some y) : leNum (X.drop j) = 256 * leNum (X.drop (j + 1)) + y.toNat := by
  have hlt := (List.getElem?_eq_some_iff.1 h).1
  have e : X[j] = y := (List.getElem?_eq_some_iff.1 h).2
  rw [List.drop_eq_getElem_cons hlt, e]
  show y.toNat + 256 * _ = _
  omega
def RFixPost (l : List UInt8) (at_ : Nat) (w : World) (e : Ending) (w' : World) : Prop :=
  e = .returned (.agg #[.int .u64 ((getFix (l.drop at_)).1 : Nat), .int .i64 ((getFix (l.drop at_)).2.1 : Nat), .int .i64 (getFix (l.drop at_)).2.2]) ∧ Below w.heap.size w w'
theorem RFixPost.of {l : List UInt8} {at_ v n : Nat} {k : Int} {w w' : World} {e : Ending} (h : getFix (l.drop at_) = (v, n, k)) (he : e = .returned (.agg #[.int .u64 v, .int .i64 n, .int .i64 k])) (hb : Below w.heap.size w w') : RFixPost l at_ w e w' := by
  unfold RFixPost
  rw [h]
  exact ⟨he, hb⟩
set_option maxHeartbeats 2000000 in
theorem rgetfix_any (A : Option Addr) (n cap : Nat) (l : List UInt8) (at_ : Nat) (w : World) (hA : Bytes w w.heap.size A l) (hn : l.length = n) (hl : n ≤ 140737488355328) (hat : at_ ≤ n) :
    Calls Try.prog 51 #[.slice A n cap, .int .i64 at_] w (RFixPost l at_ w) := by
  by_cases h8 : n - at_ < 8
  · have Hf : Hid (getFix (l.drop at_) = (0, 0, 2)) := by
      unfold Hid getFix
      rw [if_pos (by rw [List.length_drop]; omega)]
    have h8' : (n : Int) - (at_ : Int) < 8 := by omega
    go_enter Try.func51, Try.ntmps51
    go_wp2
    exact bodyPost_ret (v := .agg #[.int .u64 0, .int .i64 0, .int .i64 2]) (by simp [results, Try.results51, go_sem]) rfl (RFixPost.of Hf.out rfl (na (nr w) _))
  · have Hf : Hid (getFix (l.drop at_) = (leNum ((l.drop at_).take 8), 8, 0)) := by
      unfold Hid getFix
      rw [if_neg (by rw [List.length_drop]; omega)]
    have h8' : (8 : Int) ≤ (n : Int) - (at_ : Int) := by omega
    obtain ⟨b, off, rfl, hbg, hcells⟩ := hA (by omega)
    obtain ⟨X, hX⟩ : ∃ X, (l.drop at_).take 8 = X := ⟨_, rfl⟩
    rw [hX] at Hf
    have hXl : X.length = 8 := by rw [← hX, List.length_take, List.length_drop]; omega
    have hc : ∀ j y, X[j]? = some y → w.cell? ⟨b, off + (at_ + j), none⟩ = some (B8 y) := fun j y hy => by
      rw [← hX, List.getElem?_take] at hy
      by_cases hj : j < 8
      · rw [if_pos hj, List.getElem?_drop] at hy; exact hcells _ _ hy
      · rw [if_neg hj] at hy; cases hy
    have Hc := Lib.hid hc
    clear hcells hc hX hA
    go_enter Try.func51, Try.ntmps51
    go_wp2
    go_loop [5, 6] (fun v i => ∃ j : Nat, j ≤ 8 ∧ i = .int .i64 ((j : Int) - 1) ∧ v = .int .u64 (leNum (X.drop j) : Nat)) (fun _ i => (intOf i + 1).toNat)
    case atStart => exact ⟨8, by omega, rfl, by rw [List.drop_eq_nil_of_le (by omega)]; rfl⟩
    case round =>
      obtain ⟨j, hj, rfl, rfl⟩ := hrel
      have hlt := leNum_lt (X.drop j)
      rw [List.length_drop, hXl] at hlt
      by_cases hj0 : j = 0
      · subst hj0
        rw [List.drop_zero] at hlt ⊢
        simp only [Nat.sub_zero, Nat.reducePow] at hlt
        generalize leNum X = V at *
        go_wp2_with fail
        exact bodyPost_ret (v := .agg #[.int .u64 V, .int .i64 8, .int .i64 0]) (by simp [results, Try.results51, go_sem]) rfl (RFixPost.of Hf.out rfl (na (nr w) _))
      · obtain ⟨i, rfl⟩ : ∃ i, j = i + 1 := ⟨j - 1, by omega⟩
        obtain ⟨y, hy⟩ : ∃ y, X[i]? = some y := ⟨X[i]'(by omega), List.getElem?_eq_getElem _⟩
        have hcy := Hc.out i y hy
        have Hn := Lib.hid (leNum_drop hy)
        have hp : (256 : Nat) ^ (8 - (i + 1)) ≤ 256 ^ 7 := Nat.pow_le_pow_right (by decide) (by omega)
        simp only [Nat.reducePow] at hp
        have hV : leNum (X.drop (i + 1)) < 72057594037927936 := by omega
        clear hlt hp hy
        generalize leNum (X.drop (i + 1)) = V at *
        have hyl := y.toNat_lt
        have e1 : ((i + 1 : Nat) : Int) - 1 = (i : Int) := by omega
        rw [e1]
        have hix : (at_ : Int) + (i : Int) < (n : Int) := by omega
        go_wp2_with fail
        refine ⟨⟨i, by omega, by congr 1, by rw [Hn.out]; congr 1⟩, by simp [intOf]⟩
end Go.Proofs.Ytegpoghgddjmaaa
