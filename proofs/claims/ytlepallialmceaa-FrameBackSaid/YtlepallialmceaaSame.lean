/- The walk of the document's Same: two lists of bytes. -/
import Derived.Test.YtlepallialmceaaRefScan
namespace Go.Proofs.Ytlepallialmceaa
open Go.RowKit

/-- The slices of bytes that lie at A, each of bytes below B. -/
def Rows (w : World) (B : Nat) (A : Option Addr) (ls : List (List UInt8)) : Prop :=
  0 < ls.length → ∃ b off, A = some ⟨b, off, none⟩ ∧ b < B ∧ ∀ i l, ls[i]? = some l → ∃ A' c', w.cell? ⟨b, off + i, none⟩ = some (.slice A' l.length c') ∧ Bytes w B A' l
theorem Rows.below {w w' : World} {B : Nat} {A : Option Addr} {ls : List (List UInt8)} (h : Rows w B A ls) (hb : Below B w w') : Rows w' B A ls := fun h0 => by
  obtain ⟨b, off, e, hlt, hc⟩ := h h0
  refine ⟨b, off, e, hlt, fun i l hi => ?_⟩
  obtain ⟨A', c', h1, h2⟩ := hc i l hi
  exact ⟨A', c', (hb.cell hlt).trans h1, h2.below hb⟩
theorem Rows.at_ {w : World} {B : Nat} {A : Option Addr} {ls : List (List UInt8)} (h : Rows w B A ls) {k : Nat} (hk : k < ls.length) :
    ∃ (b off : Nat) (l : List UInt8) (A' : Option Addr) (c' : Nat), A = some (⟨b, off, Option.none⟩ : Addr) ∧ b < B ∧ ls[k]? = some l ∧ w.cell? (⟨b, off + k, Option.none⟩ : Addr) = some (.slice A' l.length c') ∧ Bytes w B A' l := by
  obtain ⟨b, off, e, hlt, hc⟩ := h (by omega)
  obtain ⟨A', c', h1, h2⟩ := hc k ls[k] (List.getElem?_eq_getElem hk)
  exact ⟨b, off, ls[k], A', c', e, hlt, List.getElem?_eq_getElem hk, h1, h2⟩
theorem rows_own {w : World} {base : Nat} {v : Value} {ls : List (List UInt8)} {vs : List Value} (h1 : w.ownsRow base 22 1 v ls.length vs) (h2 : ∀ (i : Nat) (l : List UInt8), ls[i]? = some l → ∃ (A : Option Addr) (c : Nat), vs[i]? = some (Value.slice A l.length c) ∧ Bytes w w.heap.size A l) :
    ∃ A c, v = .slice A ls.length c ∧ Rows w w.heap.size A ls := by
  rcases h1.2 with ⟨rfl, h0⟩ | ⟨g, cap, cur, rfl, _⟩
  · exact ⟨none, 0, by rw [h0], fun h => by omega⟩
  · refine ⟨_, cap, rfl, fun _ => ⟨g, 0, rfl, (World.ownsRow.lt h1 g rfl).2, fun i l hi => ?_⟩⟩
    obtain ⟨A', c', h3, h4⟩ := h2 i l hi
    refine ⟨A', c', ?_, h4⟩
    rw [Nat.zero_add, World.ownsRow.cellAt h1 i (by have := (List.getElem?_eq_some_iff.1 hi).1; omega)]
    exact h3
theorem OwnL.rows {w : World} {base : Nat} {v : Value} {ls : List (List UInt8)} (h : OwnL w base v ls) : ∃ A c, v = .slice A ls.length c ∧ Rows w w.heap.size A ls := by
  obtain ⟨vs, h1, h2⟩ := h
  refine rows_own h1 fun i l hi => ?_
  obtain ⟨A, c, h3, h4⟩ := h2 i l hi
  exact ⟨A, c, h3, h4.bytes.1⟩
theorem OwnA.rows {w : World} {B base : Nat} {v : Value} {ls : List (List UInt8)} (h : OwnA w B base v ls) (hB : B ≤ w.heap.size) : ∃ A c, v = .slice A ls.length c ∧ Rows w w.heap.size A ls := by
  obtain ⟨vs, h1, h2⟩ := h
  refine rows_own h1 fun i l hi => ?_
  obtain ⟨A, c, h3, h4⟩ := h2 i l hi
  exact ⟨A, c, h3, h4.more hB⟩

theorem take_one_more {α : Type} {l : List α} {k : Nat} {x : α} (h : l[k]? = some x) : l.take (k + 1) = l.take k ++ [x] := by rw [List.take_add_one, h]; rfl

set_option maxHeartbeats 4000000 in
theorem rsame_any (A1 A2 : Option Addr) (n1 n2 c1 c2 : Nat) (l1 l2 : List (List UInt8)) (w : World) (h1 : Rows w w.heap.size A1 l1) (h2 : Rows w w.heap.size A2 l2) (hn1 : l1.length = n1) (hn2 : l2.length = n2) (hl : n1 ≤ 1099511627776) (hl2 : n2 ≤ 1099511627776) :
    Calls Try.prog 26 #[.slice A1 n1 c1, .slice A2 n2 c2] w fun e w' => e = .returned (.bool (decide (l1 = l2))) ∧ Below w.heap.size w w' := by
  have Hn1 := Lib.hid hn1
  have Hn2 := Lib.hid hn2
  clear hn1 hn2
  by_cases hne : n1 = n2
  · subst hne
    go_enter Try.func26, Try.ntmps26
    go_wp2
    go_loopw [5] (fun t wr => ∃ k : Nat, k ≤ n1 ∧ t = .int .i64 k ∧ Hid (l1.take k = l2.take k ∧ Below w.heap.size w wr)) (fun t _ => n1 - (intOf t).toNat)
    case atStart => exact ⟨0, by omega, rfl, rfl, nr w⟩
    case round =>
      obtain ⟨k, hk, rfl, hH⟩ := hrel
      by_cases hend : k = n1
      · subst hend
        have hd : (decide (l1 = l2)) = true := by
          rw [decide_eq_true_iff]
          have := hH.out.1
          rwa [List.take_of_length_le (by rw [Hn1.out]; omega), List.take_of_length_le (by rw [Hn2.out]; omega)] at this
        go_wp2
        go_ret
        exact ⟨by rw [hd]; rfl, hH.out.2⟩
      · have hlt : k < n1 := by omega
        obtain ⟨b1, o1, p1, P1, d1, rfl, _, hp1, hx1, hy1⟩ := (h1.below hH.out.2).at_ (k := k) (by rw [Hn1.out]; exact hlt)
        obtain ⟨b2, o2, p2, P2, d2, rfl, _, hp2, hx2, hy2⟩ := (h2.below hH.out.2).at_ (k := k) (by rw [Hn2.out]; exact hlt)
        have r1 := run_str wr.drew _ P1 p1.length d1 p1 (hy1.below ((nd (nr _)).mono hH.out.2.size)) rfl
        have r2 := run_str wr.drew _ P2 p2.length d2 p2 (hy2.below ((nd (nr _)).mono hH.out.2.size)) rfl
        have Hp := Lib.hid (And.intro hp1 hp2)
        clear hp1 hp2
        by_cases hE : p1 = p2
        · subst hE
          go_wp2_with fail
          go_region
          go_wp2_with fail
          have hp1' := Hp.out.1
          have hp2' := Hp.out.2
          refine ⟨⟨k + 1, by omega, by rw [Int.natCast_add]; rfl, ?_, nd hH.out.2⟩, by simp [intOf]; omega⟩
          rw [take_one_more hp1', take_one_more hp2', hH.out.1]
        · have hbe : (p1 == p2) = false := by rw [beq_eq_false_iff_ne]; exact hE
          have hd : (decide (l1 = l2)) = false := by
            rw [decide_eq_false_iff_not]
            intro e
            have h := Hp.out.1
            rw [e, Hp.out.2] at h
            injection h with h
            exact hE h.symm
          go_wp2_with fail
          go_region
          go_wp2_with fail
          go_ret
          exact ⟨by rw [hd]; rfl, nd hH.out.2⟩
  · have hd : (decide (l1 = l2)) = false := by
      rw [decide_eq_false_iff_not]
      exact fun e => hne (by rw [← Hn1.out, ← Hn2.out, e])
    rw [hd]
    go_enter Try.func26, Try.ntmps26
    go_wp2
    go_ret
    exact ⟨rfl, nr w⟩
end Go.Proofs.Ytlepallialmceaa
