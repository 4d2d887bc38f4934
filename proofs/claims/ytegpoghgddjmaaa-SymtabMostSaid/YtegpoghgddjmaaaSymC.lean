/- A list of texts: Few, Same of the document. -/
import Derived.Test.YtegpoghgddjmaaaSymB
namespace Go.Proofs.Ytegpoghgddjmaaa
open Go.RowKit
set_option maxRecDepth 100000

/-- The slice at A reads as the texts L, below block B. -/
def Strs (w : World) (B : Nat) (A : Option Addr) (L : List (List UInt8)) : Prop :=
  0 < L.length → ∃ b off, A = some ⟨b, off, none⟩ ∧ b < B ∧ ∀ (j : Nat) (l : List UInt8), L[j]? = some l → w.cell? ⟨b, off + j, none⟩ = some (S8 l) ∧ l.length ≤ 9223372036854775807
theorem Strs.below {w w' : World} {B B' : Nat} {A : Option Addr} {L : List (List UInt8)} (h : Strs w B A L) (hb : Below B w w') (hB : B ≤ B') : Strs w' B' A L := fun hn => by
  obtain ⟨b, off, e, h1, h2⟩ := h hn
  exact ⟨b, off, e, by omega, fun j l hl => ⟨(hb.cell (p := ⟨b, _, none⟩) h1).trans (h2 j l hl).1, (h2 j l hl).2⟩⟩
theorem Strs.get {w : World} {B : Nat} {A : Option Addr} {L : List (List UInt8)} {k : Nat} (h : Strs w B A L) (hk : k < L.length) : ∃ b off l, A = some ⟨b, off, none⟩ ∧ b < B ∧ L[k]? = some l ∧ w.cell? ⟨b, off + k, none⟩ = some (S8 l) ∧ l.length ≤ 9223372036854775807 := by
  obtain ⟨b, off, e, hb, hc⟩ := h (by omega)
  exact ⟨b, off, L[k], e, hb, List.getElem?_eq_getElem hk, (hc k _ (List.getElem?_eq_getElem hk)).1, (hc k _ (List.getElem?_eq_getElem hk)).2⟩
def fewOk (L : List (List UInt8)) : Prop := L.length ≤ 60 ∧ ∀ (j : Nat) (l : List UInt8), L[j]? = some l → l.length ≤ 500
def FewPost (L : List (List UInt8)) (w : World) (e : Ending) (w' : World) : Prop := w' = w ∧ (e = .returned (.bool false) ∨ (e = .returned (.bool true) ∧ fewOk L))
set_option maxHeartbeats 1000000 in
theorem rfew_any (A : Option Addr) (n cap : Nat) (L : List (List UInt8)) (w : World) (hA : Strs w w.heap.size A L) (hn : L.length = n) :
    Calls Try.prog 63 #[.slice A n cap, .int .i64 60] w (FewPost L w) := by
  by_cases h60 : 60 < n
  · have h60i : (60 : Int) < (n : Int) := by omega
    go_enter Try.func63, Try.ntmps63
    go_wp2_with fail
    go_ret
    exact ⟨rfl, .inl rfl⟩
  · have h60' : (n : Int) ≤ 60 := by omega
    have Hn := Lib.hid hn
    clear hn
    go_enter Try.func63, Try.ntmps63
    go_wp2_with fail
    go_loop [5] (fun i => ∃ k : Nat, k ≤ n ∧ i = .int .i64 k ∧ Hid (∀ (j : Nat) (l : List UInt8), j < k → L[j]? = some l → l.length ≤ 500)) (fun i => n - (intOf i).toNat)
    case atStart => exact ⟨0, by omega, rfl, fun j x h => by omega⟩
    case round =>
      obtain ⟨k, hk, rfl, hH⟩ := hrel
      by_cases hend : k = n
      · subst hend
        go_wp2_with fail
        go_ret
        refine ⟨rfl, .inr ⟨rfl, by rw [Hn.out]; omega, fun j x hx => hH.out j x ?_ hx⟩⟩
        rw [← Hn.out]
        exact (List.getElem?_eq_some_iff.1 hx).1
      · obtain ⟨b, off, x, rfl, hbg, hx, hc, hxl⟩ := hA.get (k := k) (by rw [Hn.out]; omega)
        have Hx := Lib.hid hx
        clear hx
        have hki : (k : Int) < (n : Int) := by omega
        by_cases h3 : 500 < x.length
        · have h3i : (500 : Int) < (x.length : Int) := by omega
          go_wp2_with fail
          go_ret
          exact ⟨rfl, .inl rfl⟩
        · have h3' : (x.length : Int) ≤ 500 := by omega
          go_wp2_with fail
          go_round
          case rel =>
            refine ⟨k + 1, by omega, by go_num, fun j y hj hy => ?_⟩
            by_cases hjk : j = k
            · subst hjk
              have := Hx.out
              rw [hy] at this
              injection this with this
              subst this
              omega
            · exact hH.out j y (by omega) hy
          case measure => simp [intOf]; omega
set_option maxHeartbeats 2000000 in
theorem rsames_any (A1 A2 : Option Addr) (n1 n2 c1 c2 : Nat) (l1 l2 : List (List UInt8)) (w : World) (h1 : Strs w w.heap.size A1 l1) (h2 : Strs w w.heap.size A2 l2) (hn1 : l1.length = n1) (hn2 : l2.length = n2) (hl : n1 ≤ 1099511627776) :
    Calls Try.prog 74 #[.slice A1 n1 c1, .slice A2 n2 c2] w fun e w' => e = .returned (.bool (decide (l1 = l2))) ∧ Below w.heap.size w w' := by
  have Hn1 := Lib.hid hn1
  have Hn2 := Lib.hid hn2
  clear hn1 hn2
  by_cases hne : n1 = n2
  · subst hne
    go_enter Try.func74, Try.ntmps74
    go_wp2_with fail
    go_loopw [5] (fun t wr => ∃ k : Nat, k ≤ n1 ∧ t = .int .i64 k ∧ Hid (l1.take k = l2.take k ∧ Below w.heap.size w wr)) (fun t _ => n1 - (intOf t).toNat)
    case atStart => exact ⟨0, by omega, rfl, rfl, nr w⟩
    case round =>
      obtain ⟨k, hk, rfl, hH⟩ := hrel
      by_cases hend : k = n1
      · subst hend
        have hd := Lib.hid (show (decide (l1 = l2)) = true by
          rw [decide_eq_true_iff]
          have := hH.out.1
          rwa [List.take_of_length_le (by rw [Hn1.out]; omega), List.take_of_length_le (by rw [Hn2.out]; omega)] at this)
        go_wp2_with fail
        go_ret
        exact ⟨by rw [hd.out]; rfl, hH.out.2⟩
      · have hlt : k < n1 := by omega
        have hki : (k : Int) < (n1 : Int) := by omega
        obtain ⟨b1, o1, p1, rfl, _, hp1, hx1, _⟩ := (h1.below hH.out.2 (Nat.le_refl _)).get (k := k) (by rw [Hn1.out]; exact hlt)
        obtain ⟨b2, o2, p2, rfl, _, hp2, hx2, _⟩ := (h2.below hH.out.2 (Nat.le_refl _)).get (k := k) (by rw [Hn2.out]; exact hlt)
        have Hp := Lib.hid (And.intro hp1 hp2)
        clear hp1 hp2
        by_cases hE : p1 = p2
        · subst hE
          go_upto_region 6 with fail
          go_quiet (fail)
          go_wp2_with fail
          have hp1' := Hp.out.1
          have hp2' := Hp.out.2
          refine ⟨⟨k + 1, by omega, by go_num, ?_, ndN hH.out.2 _⟩, by simp [intOf]; omega⟩
          rw [List.take_add_one, List.take_add_one, hp1', hp2', hH.out.1]
        · have hbe : (p1 == p2) = false := by rw [beq_eq_false_iff_ne]; exact hE
          have hd := Lib.hid (show (decide (l1 = l2)) = false by
            rw [decide_eq_false_iff_not]
            intro e
            have h := Hp.out.1
            rw [e, Hp.out.2] at h
            injection h with h
            exact hE h.symm)
          go_upto_region 6 with fail
          go_quiet (fail)
          go_wp2_with fail
          go_ret
          exact ⟨by rw [hd.out]; rfl, ndN hH.out.2 _⟩
  · have hd : (decide (l1 = l2)) = false := by
      rw [decide_eq_false_iff_not]
      exact fun e => hne (by rw [← Hn1.out, ← Hn2.out, e])
    rw [hd]
    go_enter Try.func74, Try.ntmps74
    go_wp2
    go_ret
    exact ⟨rfl, nr w⟩
end Go.Proofs.Ytegpoghgddjmaaa
