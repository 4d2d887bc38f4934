/- The walk of frame.Scan: the payloads that stand there, as far as they are whole. -/
import Derived.Test.YtlepallialmceaaFirst
import Derived.ScopeJumps
import Derived.WalkMore
namespace Go.Proofs.Ytlepallialmceaa
open Go.RowKit

/-- The payloads that stand there, how many bytes they take, the error's number. -/
def scanN : Nat → List UInt8 → List (List UInt8) × Nat × Int
  | 0, _ => ([], 0, 0)
  | k + 1, b =>
    if b = [] then ([], 0, 0)
    else if (first b).2.2 = 0 then ((first b).1 :: (scanN k (b.drop (first b).2.1)).1, (first b).2.1 + (scanN k (b.drop (first b).2.1)).2.1, (scanN k (b.drop (first b).2.1)).2.2)
    else ([], 0, (first b).2.2)
def scan (b : List UInt8) : List (List UInt8) × Nat × Int := scanN b.length b
theorem first_ok {b : List UInt8} (h : (first b).2.2 = 0) : b ≠ [] ∧ 9 ≤ (first b).2.1 ∧ (first b).2.1 ≤ b.length := by
  unfold first at h ⊢
  by_cases h0 : b = []
  · rw [if_pos h0] at h; cases h
  rw [if_neg h0] at h ⊢
  split at h
  · cases h
  rename_i h1
  rw [if_neg h1]
  split at h
  · cases h
  rename_i h2
  rw [if_neg h2]
  split at h
  · cases h
  rename_i h3
  rw [if_neg h3]
  split at h
  · cases h
  rename_i h4
  rw [if_neg h4]
  split at h
  · cases h
  rename_i h5
  rw [if_neg h5]
  exact ⟨h0, by show 9 ≤ 9 + _; omega, by show 9 + _ ≤ _; omega⟩
theorem scanN_more (k : Nat) : ∀ (j : Nat) (b : List UInt8), b.length ≤ k → k ≤ j → scanN j b = scanN k b := by
  induction k with
  | zero =>
    intro j b hb _
    have : b = [] := List.eq_nil_of_length_eq_zero (by omega)
    subst this
    cases j with
    | zero => rfl
    | succ j => rfl
  | succ k ih =>
    intro j b hb hj
    obtain ⟨j, rfl⟩ : ∃ i, j = i + 1 := ⟨j - 1, by omega⟩
    show (if b = [] then _ else _) = (if b = [] then _ else _)
    by_cases h0 : b = []
    · rw [if_pos h0, if_pos h0]
    · rw [if_neg h0, if_neg h0]
      by_cases h1 : (first b).2.2 = 0
      · rw [if_pos h1, if_pos h1, ih j _ (by have := first_ok h1; rw [List.length_drop]; omega) (by omega)]
      · rw [if_neg h1, if_neg h1]
theorem scan_nil : scan [] = ([], 0, 0) := rfl
theorem scan_stop {b : List UInt8} (h0 : b ≠ []) (h : (first b).2.2 ≠ 0) : scan b = ([], 0, (first b).2.2) := by
  unfold scan
  obtain ⟨k, hk⟩ : ∃ k, b.length = k + 1 := ⟨b.length - 1, by have := List.length_pos_iff.2 h0; omega⟩
  rw [hk]
  show (if b = [] then _ else _) = _
  rw [if_neg h0, if_neg h]
theorem scan_go {b : List UInt8} (h : (first b).2.2 = 0) : scan b = ((first b).1 :: (scan (b.drop (first b).2.1)).1, (first b).2.1 + (scan (b.drop (first b).2.1)).2.1, (scan (b.drop (first b).2.1)).2.2) := by
  obtain ⟨h0, h9, hl⟩ := first_ok h
  unfold scan
  obtain ⟨k, hk⟩ : ∃ k, b.length = k + 1 := ⟨b.length - 1, by have := List.length_pos_iff.2 h0; omega⟩
  rw [hk]
  have e := scanN_more (b.drop (first b).2.1).length k (b.drop (first b).2.1) (Nat.le_refl _) (by rw [List.length_drop]; omega)
  show (if b = [] then _ else _) = _
  rw [if_neg h0, if_pos h, e]

def ScanPost (b : List UInt8) (w : World) (e : Ending) (w' : World) : Prop :=
  ∃ v, e = .returned (.tuple #[v, .int .i64 ((scan b).2.1 : Nat), .int .i64 (scan b).2.2]) ∧ OwnL w' w.heap.size v (scan b).1 ∧ Below w.heap.size w w'

set_option maxHeartbeats 1000000 in
theorem scan_any (A : Option Addr) (n cap : Nat) (b : List UInt8) (w : World) (hA : Bytes w w.heap.size A b) (hn : b.length = n) (hl : n ≤ 1099511627776) (hcap : n ≤ cap) (hcm : cap ≤ 9223372036854775807) :
    Calls Try.prog 24 #[.slice A n cap] w (ScanPost b w) := by
  go_enter Try.func24, Try.ntmps24
  go_wp2
  have Hn := Lib.hid hn
  clear hn
  refine wp_scope_jumps 0 (fun a' w' => ∃ (used : Nat) (v : Value) (ps : List (List UInt8)) (u4 u5 u6 u7 u8 u9 u10 u11 u12 u13 u14 u15 u16 u17 u18 u19 u20 u21 u22 u23 u24 u25 u26 u27 u28 u29 u30 u31 u32 : Value), a' = { tmps := #[.slice A n cap, undef, v, .int .i64 used, u4, u5, u6, u7, u8, u9, u10, u11, u12, u13, u14, u15, u16, u17, u18, u19, u20, u21, u22, u23, u24, u25, u26, u27, u28, u29, u30, u31, u32], defers := [] } ∧ used ≤ n ∧ 9 * ps.length ≤ used ∧ OwnL w' w.heap.size v ps ∧
      Hid (scan b = (ps ++ (scan (b.drop used)).1, used + (scan (b.drop used)).2.1, (scan (b.drop used)).2.2)) ∧ Below w.heap.size w w') (fun a' _ => n - (intOf (a'.tmps.getD 3 undef)).toNat) rfl ?_ ?_
  · go_wp2
    go_step3
    have Hs : Hid (scan b = (([] : List (List UInt8)) ++ (scan (b.drop 0)).1, 0 + (scan (b.drop 0)).2.1, (scan (b.drop 0)).2.2)) := by unfold Hid; rw [List.drop_zero, Nat.zero_add, List.nil_append]
    have hown := OwnL.nil_ w w.heap.size
    have hbw := nr w
    obtain ⟨used, hu0⟩ : ∃ used : Nat, used = 0 := ⟨0, rfl⟩
    obtain ⟨v, hv0⟩ : ∃ v : Value, v = .slice none 0 0 := ⟨_, rfl⟩
    obtain ⟨ps, hp0⟩ : ∃ ps : List (List UInt8), ps = [] := ⟨_, rfl⟩
    have hu : used ≤ n := by omega
    have hps : 9 * ps.length ≤ used := by rw [hp0]; simp
    rw [← hv0, ← hp0] at hown
    rw [← hp0, ← hu0] at Hs
    rw [← hv0]
    rw [show (0 : Int) = ((0 : Nat) : Int) from rfl, ← hu0]
    clear hu0 hv0 hp0
    by_cases hend : used = n
    · subst hend
      have Hz := Lib.hid (show scan b = (ps, used, 0) by
        have h1 := Hs.out
        have h2 : b.drop used = [] := List.drop_eq_nil_of_le (by have := Hn.out; omega)
        rw [h2, scan_nil] at h1
        simpa using h1)
      have hq : ((used : Int) == (used : Int)) = true := by simp
      go_wp2
      simp only [Exit.jump]
      go_ret3
      refine ⟨v, ?_, by rw [Hz.out]; exact hown, hbw⟩
      rw [Hz.out]; rfl
    · have hlt : used < n := by omega
      have hq : ((used : Int) == (n : Int)) = false := by rw [beq_eq_false_iff_ne]; omega
      obtain ⟨bl, off, x, rfl, hbl, _, _⟩ := hA.at_ (k := 0) (by have := Hn.out; omega)
      have hD : Bytes w w.heap.size (some ⟨bl, off + used, none⟩) (b.drop used) := by
        intro _
        obtain ⟨b', off', e, hb', hc⟩ := hA (by have := Hn.out; omega)
        injection e with e
        injection e with e1 e2
        subst e1 e2
        exact ⟨_, _, rfl, hb', fun j y hy => by rw [Nat.add_assoc]; exact hc _ _ (by rw [← hy, List.getElem?_drop])⟩
      have hd : (b.drop used).length = n - used := by rw [List.length_drop, Hn.out]
      have Hf := Lib.hid (first_any (some ⟨bl, off + used, none⟩) (n - used) (cap - used) (b.drop used) w ((hD.below hbw).more hbw.size) hd (by omega) (by omega) (by omega))
      have Hd := Lib.hid hd
      have hc1 : ¬ cap = used := by omega
      clear hd hD
      go_wp2_with fail
      refine Hf.out.mono ?_
      rintro e w1 ⟨A', c', rfl, ho1, hnn, hb1⟩
      have Ho1 := Lib.hid ho1
      clear hnn ho1
      have hown1 := Lib.hid (hown.new_ hb1)
      have hbw1 := hbw.trans (hb1.mono hbw.size)
      clear hb1 hown
      by_cases he : (first (b.drop used)).2.2 = 0
      · have Hs2 := Lib.hid (scan_go he)
        have Hok := Lib.hid (first_ok he)
        have hn9 : 9 ≤ (first (b.drop used)).2.1 := Hok.out.2.1
        have hnl : used + (first (b.drop used)).2.1 ≤ n := by have := Hok.out.2.2; rw [Hd.out] at this; omega
        rw [he]
        have He := Lib.hid he
        clear he
        generalize hp : (first (b.drop used)).1 = p at *
        generalize hm : (first (b.drop used)).2.1 = m at *
        have Hp := Lib.hid hp
        have Hm := Lib.hid hm
        clear hp hm
        obtain ⟨vs, hr, hels⟩ := hown1.out
        have Hr := Lib.hid hr
        have Hels := Lib.hid hels
        clear hr hels hown1
        go_wp2_with (at_builtin; refine wpList_append_one rfl (.tmp 23) (.tmp 25) 43 22 (.slice none 0 0) 24 rfl Try.underlying43 slinfo rfl w.heap.size v ps.length vs rfl (World.ownsRow.alloc Hr.out _) ⟨w1.heap.size, 0, none⟩ 1 (.slice A' p.length c') rfl (by simp [go_sem]) rfl (by simp only [maxLen]; omega) (by omega) (na hbw1 _).size ?_
                     intro g cap2 w2 hr2 hg2 hat2
                     have hbw2 : Below w.heap.size w w2 := (na hbw1 _).grown hg2 (na hbw1 _).size (fun q e => (World.ownsRow.lt Hr.out q e).1)
                     have Hl := Lib.hid (OwnL.snoc (World.ownsRow.alloc Hr.out _) (fun i l h => by obtain ⟨A, c, h1, h2⟩ := Hels.out i l h; exact ⟨A, c, h1, h2.alloc _⟩) ((Ho1.out.rebase hbw.size).alloc _) hr2 hg2)
                     clear hr2 hg2 hat2)
        go_step3
        rw [show ((used : Int) + (m : Int)) = ((used + m : Nat) : Int) by omega]
        have hfin : Hid (scan b = ((ps ++ [p]) ++ (scan (b.drop (used + m))).1, (used + m) + (scan (b.drop (used + m))).2.1, (scan (b.drop (used + m))).2.2)) := by
          have h1 := Hs.out
          rw [Hs2.out, List.drop_drop] at h1
          unfold Hid
          rw [h1]
          simp [Nat.add_assoc]
        have hlen : 9 * (ps ++ [p]).length ≤ used + m := by rw [List.length_append]; simp; omega
        have Hl' : OwnL w2 w.heap.size (.slice (some ⟨g, 0, none⟩) (ps.length + 1) cap2) (ps ++ [p]) := Hl.out
        exact ⟨rfl, used + m, _, ps ++ [p], _, _, _, _, _, _, _, _, _, _, _, _, _, _, _, _, _, _, _, _, _, _, _, _, _, _, _, _, _, rfl, by omega, hlen, Hl', hfin, hbw2⟩
      · have Hs2 := Lib.hid (scan_stop (fun e => by rw [e] at Hd; have := Hd.out; simp at this; omega) he)
        have hq2 : ((first (b.drop used)).2.2 == 0) = false := by rw [beq_eq_false_iff_ne]; exact he
        go_wp2
        simp only [Exit.jump]
        go_ret3
        refine ⟨v, ?_, ?_, hbw1⟩
        · rw [Hs.out, Hs2.out]; simp
        · rw [Hs.out, Hs2.out]; simpa using hown1.out
  · rintro a' WW ⟨used, v, ps, u4, u5, u6, u7, u8, u9, u10, u11, u12, u13, u14, u15, u16, u17, u18, u19, u20, u21, u22, u23, u24, u25, u26, u27, u28, u29, u30, u31, u32, rfl, hu, hps, hown, Hs, hbw⟩
    by_cases hend : used = n
    · subst hend
      have Hz := Lib.hid (show scan b = (ps, used, 0) by
        have h1 := Hs.out
        have h2 : b.drop used = [] := List.drop_eq_nil_of_le (by have := Hn.out; omega)
        rw [h2, scan_nil] at h1
        simpa using h1)
      have hq : ((used : Int) == (used : Int)) = true := by simp
      go_wp2
      simp only [Exit.jump]
      go_ret3
      refine ⟨v, ?_, by rw [Hz.out]; exact hown, hbw⟩
      rw [Hz.out]; rfl
    · have hlt : used < n := by omega
      have hq : ((used : Int) == (n : Int)) = false := by rw [beq_eq_false_iff_ne]; omega
      obtain ⟨bl, off, x, rfl, hbl, _, _⟩ := hA.at_ (k := 0) (by have := Hn.out; omega)
      have hD : Bytes w w.heap.size (some ⟨bl, off + used, none⟩) (b.drop used) := by
        intro _
        obtain ⟨b', off', e, hb', hc⟩ := hA (by have := Hn.out; omega)
        injection e with e
        injection e with e1 e2
        subst e1 e2
        exact ⟨_, _, rfl, hb', fun j y hy => by rw [Nat.add_assoc]; exact hc _ _ (by rw [← hy, List.getElem?_drop])⟩
      have hd : (b.drop used).length = n - used := by rw [List.length_drop, Hn.out]
      have Hf := Lib.hid (first_any (some ⟨bl, off + used, none⟩) (n - used) (cap - used) (b.drop used) WW ((hD.below hbw).more hbw.size) hd (by omega) (by omega) (by omega))
      have Hd := Lib.hid hd
      have hc1 : ¬ cap = used := by omega
      clear hd hD
      go_wp2_with fail
      refine Hf.out.mono ?_
      rintro e w1 ⟨A', c', rfl, ho1, hnn, hb1⟩
      have Ho1 := Lib.hid ho1
      clear hnn ho1
      have hown1 := Lib.hid (hown.new_ hb1)
      have hbw1 := hbw.trans (hb1.mono hbw.size)
      clear hb1 hown
      by_cases he : (first (b.drop used)).2.2 = 0
      · have Hs2 := Lib.hid (scan_go he)
        have Hok := Lib.hid (first_ok he)
        have hn9 : 9 ≤ (first (b.drop used)).2.1 := Hok.out.2.1
        have hnl : used + (first (b.drop used)).2.1 ≤ n := by have := Hok.out.2.2; rw [Hd.out] at this; omega
        rw [he]
        have He := Lib.hid he
        clear he
        generalize hp : (first (b.drop used)).1 = p at *
        generalize hm : (first (b.drop used)).2.1 = m at *
        have Hp := Lib.hid hp
        have Hm := Lib.hid hm
        clear hp hm
        obtain ⟨vs, hr, hels⟩ := hown1.out
        have Hr := Lib.hid hr
        have Hels := Lib.hid hels
        clear hr hels hown1
        go_wp2_with (at_builtin; refine wpList_append_one rfl (.tmp 23) (.tmp 25) 43 22 (.slice none 0 0) 24 rfl Try.underlying43 slinfo rfl w.heap.size v ps.length vs rfl (World.ownsRow.alloc Hr.out _) ⟨w1.heap.size, 0, none⟩ 1 (.slice A' p.length c') rfl (by simp [go_sem]) rfl (by simp only [maxLen]; omega) (by omega) (na hbw1 _).size ?_
                     intro g cap2 w2 hr2 hg2 hat2
                     have hbw2 : Below w.heap.size w w2 := (na hbw1 _).grown hg2 (na hbw1 _).size (fun q e => (World.ownsRow.lt Hr.out q e).1)
                     have Hl := Lib.hid (OwnL.snoc (World.ownsRow.alloc Hr.out _) (fun i l h => by obtain ⟨A, c, h1, h2⟩ := Hels.out i l h; exact ⟨A, c, h1, h2.alloc _⟩) ((Ho1.out.rebase hbw.size).alloc _) hr2 hg2)
                     clear hr2 hg2 hat2)
        go_step3
        rw [show ((used : Int) + (m : Int)) = ((used + m : Nat) : Int) by omega]
        have hfin : Hid (scan b = ((ps ++ [p]) ++ (scan (b.drop (used + m))).1, (used + m) + (scan (b.drop (used + m))).2.1, (scan (b.drop (used + m))).2.2)) := by
          have h1 := Hs.out
          rw [Hs2.out, List.drop_drop] at h1
          unfold Hid
          rw [h1]
          simp [Nat.add_assoc]
        have hlen : 9 * (ps ++ [p]).length ≤ used + m := by rw [List.length_append]; simp; omega
        have Hl' : OwnL w2 w.heap.size (.slice (some ⟨g, 0, none⟩) (ps.length + 1) cap2) (ps ++ [p]) := Hl.out
        refine ⟨rfl, ⟨used + m, _, ps ++ [p], _, _, _, _, _, _, _, _, _, _, _, _, _, _, _, _, _, _, _, _, _, _, _, _, _, _, _, _, _, rfl, by omega, hlen, Hl', hfin, hbw2⟩, ?_⟩
        simp [intOf]
        omega
      · have Hs2 := Lib.hid (scan_stop (fun e => by rw [e] at Hd; have := Hd.out; simp at this; omega) he)
        have hq2 : ((first (b.drop used)).2.2 == 0) = false := by rw [beq_eq_false_iff_ne]; exact he
        go_wp2
        simp only [Exit.jump]
        go_ret3
        refine ⟨v, ?_, ?_, hbw1⟩
        · rw [Hs.out, Hs2.out]; simp
        · rw [Hs.out, Hs2.out]; simpa using hown1.out
end Go.Proofs.Ytlepallialmceaa
