/- The walk of the document's Scan: the payloads stand in the bytes that came in. -/
import Derived.Test.YtlepallialmceaaRefFirst
import Derived.Test.YtlepallialmceaaScan
import Derived.Deep.LoopGhost
namespace Go.Proofs.Ytlepallialmceaa
open Go.RowKit

/-- The slice value v, made by the call, has for elements slices that read ls, of bytes below B. -/
def OwnA (w : World) (B base : Nat) (v : Value) (ls : List (List UInt8)) : Prop :=
  ∃ vs : List Value, w.ownsRow base 22 1 v ls.length vs ∧ ∀ (i : Nat) (l : List UInt8), ls[i]? = some l → ∃ (A : Option Addr) (c : Nat), vs[i]? = some (Value.slice A l.length c) ∧ Bytes w B A l
theorem OwnA.nil_ (w : World) (B base : Nat) : OwnA w B base (.slice none 0 0) [] := ⟨[], World.ownsRow_nil _ _ _ _, fun i l h => by simp at h⟩
theorem OwnA.form {w : World} {B base : Nat} {v : Value} {ls : List (List UInt8)} (h : OwnA w B base v ls) : ∃ A c, v = .slice A ls.length c := by
  obtain ⟨vs, h1, h2⟩ := h
  rcases h1.2 with ⟨rfl, h0⟩ | ⟨g, cap, cur, rfl, _⟩
  · exact ⟨none, 0, by rw [h0]⟩
  · exact ⟨_, cap, rfl⟩
theorem OwnA.new_ {w w' : World} {B base : Nat} {v : Value} {ls : List (List UInt8)} (h : OwnA w B base v ls) (hb : Below w.heap.size w w') (hB : B ≤ w.heap.size) : OwnA w' B base v ls := by
  obtain ⟨vs, h1, h2⟩ := h
  refine ⟨vs, ownsRow_new h1 hb, fun i l hi => ?_⟩
  obtain ⟨A, c, h3, h4⟩ := h2 i l hi
  exact ⟨A, c, h3, h4.below (hb.mono hB)⟩
theorem OwnA.set_ {w : World} {B base : Nat} {v : Value} {ls : List (List UInt8)} (h : OwnA w B base v ls) {a : Addr} (ha : a.block < base) (hB : B ≤ a.block) (u : Value) : OwnA (w.setCell a u) B base v ls := by
  obtain ⟨vs, h1, h2⟩ := h
  refine ⟨vs, ownsRow_setCell_below h1 ha u, fun i l hi => ?_⟩
  obtain ⟨A, c, h3, h4⟩ := h2 i l hi
  exact ⟨A, c, h3, h4.below ((Below.refl B w).setCell hB u)⟩
theorem OwnA.snoc {w w' : World} {B base : Nat} {v v' : Value} {ls : List (List UInt8)} {vs : List Value} {A : Option Addr} {c : Nat} {l : List UInt8}
    (h1 : w.ownsRow base 22 1 v ls.length vs) (h2 : ∀ (i : Nat) (l : List UInt8), ls[i]? = some l → ∃ (A : Option Addr) (c : Nat), vs[i]? = some (Value.slice A l.length c) ∧ Bytes w B A l) (hl : Bytes w B A l)
    (hr : w'.ownsRow base 22 1 v' (ls.length + 1) (vs ++ [.slice A l.length c])) (hb : Below B w w') : OwnA w' B base v' (ls ++ [l]) := by
  have hvl : vs.length = ls.length := by have := h1.1; omega
  refine ⟨vs ++ [.slice A l.length c], by rw [List.length_append]; exact hr, fun i x hi => ?_⟩
  rw [List.getElem?_append] at hi ⊢
  by_cases hlt : i < ls.length
  · rw [if_pos hlt] at hi
    obtain ⟨A', c', h3, h4⟩ := h2 i x hi
    rw [if_pos (by omega)]
    exact ⟨A', c', h3, h4.below hb⟩
  · rw [if_neg hlt] at hi
    rw [if_neg (by omega), hvl]
    have : i - ls.length = 0 := by
      rcases Nat.eq_zero_or_pos (i - ls.length) with h | h
      · exact h
      · rw [List.getElem?_eq_none (by simp; omega)] at hi; cases hi
    rw [this] at hi ⊢
    injection hi with hi
    subst hi
    exact ⟨A, c, rfl, hl.below hb⟩

/-- At the head of a round: k bytes are left. -/
def RScanAt (b : List UInt8) (n : Nat) (w wr : World) (k : Nat) : Prop :=
  ∃ (used : Nat) (v : Value) (ps : List (List UInt8)), used + k = n ∧ 9 * ps.length ≤ used ∧ OwnA wr w.heap.size (w.heap.size + 2) v ps ∧
    scan b = (ps ++ (scan (b.drop used)).1, used + (scan (b.drop used)).2.1, (scan (b.drop used)).2.2) ∧ Below w.heap.size w wr ∧ w.heap.size + 2 ≤ wr.heap.size ∧
    (∀ i, wr.frozen? ⟨w.heap.size, i, none⟩ = false) ∧ (∀ i, wr.frozen? ⟨w.heap.size + 1, i, none⟩ = false) ∧
    wr.cell? ⟨w.heap.size, 0, none⟩ = some (.slice none 0 0) ∧ wr.cell? ⟨w.heap.size, 1, none⟩ = some (.int .i64 0) ∧ wr.cell? ⟨w.heap.size, 2, none⟩ = some (.int .i64 0) ∧
    wr.cell? ⟨w.heap.size + 1, 0, none⟩ = some v ∧ wr.cell? ⟨w.heap.size + 1, 1, none⟩ = some (.int .i64 used) ∧ wr.cell? ⟨w.heap.size + 1, 2, none⟩ = some (.int .i64 0)

def RScanPost (b : List UInt8) (w : World) (e : Ending) (w' : World) : Prop :=
  ∃ v, e = .returned (.agg #[v, .int .i64 ((scan b).2.1 : Nat), .int .i64 (scan b).2.2]) ∧ OwnA w' w.heap.size (w.heap.size + 2) v (scan b).1 ∧ Below w.heap.size w w'

theorem rscan_start (b : List UInt8) (n : Nat) (w : World) : Hid (RScanAt b n w ((w.alloc (.cells #[.slice none 0 0, .int .i64 0, .int .i64 0] 47)).alloc (.cells #[.slice none 0 0, .int .i64 0, .int .i64 0] 47)) n) := by
  generalize hR : (#[.slice none 0 0, .int .i64 0, .int .i64 0] : Array Value) = R
  have hz : (w.alloc (.cells R 47)).heap.size = w.heap.size + 1 := by simp
  have hb := na (nr (w.alloc (.cells R 47))) (.cells R 47)
  have c0 : ∀ k v, R[k]? = some v → ((w.alloc (.cells R 47)).alloc (.cells R 47)).cell? ⟨w.heap.size, k, none⟩ = some v := fun k v h =>
    (hb.cell (p := ⟨w.heap.size, k, none⟩) (by show w.heap.size < _; omega)).trans ((cell_of_row _ _ _ _ _ _ (heap_alloc_new w _)).trans h)
  have c1 : ∀ k v, R[k]? = some v → ((w.alloc (.cells R 47)).alloc (.cells R 47)).cell? ⟨w.heap.size + 1, k, none⟩ = some v := fun k v h => by
    rw [← hz]; exact (cell_of_row _ _ _ _ _ _ (heap_alloc_new _ _)).trans h
  refine ⟨0, .slice none 0 0, [], by omega, by simp, OwnA.nil_ _ _ _, by rw [List.drop_zero, Nat.zero_add, List.nil_append], na (na (nr w) _) _, by simp, fun i => ?_, fun i => ?_, c0 0 _ (by rw [← hR]; rfl), c0 1 _ (by rw [← hR]; rfl), c0 2 _ (by rw [← hR]; rfl), c1 0 _ (by rw [← hR]; rfl), c1 1 _ (by rw [← hR]; rfl), c1 2 _ (by rw [← hR]; rfl)⟩
  · exact (hb.frozen (p := ⟨w.heap.size, i, none⟩) (by show w.heap.size < _; omega)).trans (World.frozen?_alloc_new w _ _ i)
  · rw [← hz]; exact World.frozen?_alloc_new _ _ _ i

set_option maxHeartbeats 4000000 in
theorem rscan_any (A : Option Addr) (n cap : Nat) (b : List UInt8) (w : World) (hA : Bytes w w.heap.size A b) (hn : b.length = n) (hl : n ≤ 1099511627776) (hcap : n ≤ cap) (hcm : cap ≤ 9223372036854775807) :
    Calls Try.prog 25 #[.slice A n cap] w (RScanPost b w) := by
  have Hn := Lib.hid hn
  clear hn
  go_enter Try.func25, Try.ntmps25
  go_wp2
  go_loopg [4] n (fun k _ wr => Hid (RScanAt b n w wr k))
  case atStart =>
    exact rscan_start b n w
  case round =>
    obtain ⟨used, v, ps, hk, hps, hown, hsc, hbw, hsz, hf0, hf1, r0, r1, r2, x0, x1, x2⟩ := hrel.out
    clear hrel
    obtain ⟨vA, vc, rfl⟩ := hown.form
    have Hs := Lib.hid hsc
    have Hown := Lib.hid hown
    clear hsc hown
    have f00 := hf0 0; have f01 := hf0 1; have f02 := hf0 2
    have f10 := hf1 0; have f11 := hf1 1; have f12 := hf1 2
    have Hf0 := Lib.hid hf0
    have Hf1 := Lib.hid hf1
    clear hf0 hf1
    by_cases hend : used = n
    · subst hend
      have Hz := Lib.hid (show scan b = (ps, used, 0) by
        have h1 := Hs.out
        have h2 : b.drop used = [] := List.drop_eq_nil_of_le (by have := Hn.out; omega)
        rw [h2, scan_nil] at h1
        simpa using h1)
      go_wp2_with fail
      refine bodyPost_ret (v := .agg #[.slice vA ps.length vc, .int .i64 used, .int .i64 0]) (by simp [results, Try.results25, go_sem, r0, r1, r2]) rfl ⟨_, by rw [Hz.out], ?_, ((hbw.setCell (Nat.le_refl _) _).setCell (Nat.le_refl _) _).setCell (Nat.le_refl _) _⟩
      rw [Hz.out]
      exact ((Hown.out.set_ (by show w.heap.size < _; omega) (Nat.le_refl _) _).set_ (by show w.heap.size < _; omega) (Nat.le_refl _) _).set_ (by show w.heap.size < _; omega) (Nat.le_refl _) _
    · have hlt : used < n := by omega
      have Hf := Lib.hid (rfirst_any A n cap used b wr w.heap.size hbw.size (hA.below hbw) Hn.out hl hcap hcm (by omega))
      go_wp2_with fail
      refine Hf.out.mono ?_
      rintro e w1 ⟨A', c', rfl, hp1, hb1⟩
      have hz : ∀ o, ∀ p : Addr, p.block < wr.heap.size → (w1.alloc o).cell? p = wr.cell? p := fun o p hp => ((na (nr w1) o).cell (Nat.lt_of_lt_of_le hp hb1.size)).trans (hb1.cell hp)
      have hzf : ∀ o, ∀ p : Addr, p.block < wr.heap.size → (w1.alloc o).frozen? p = wr.frozen? p := fun o p hp => ((na (nr w1) o).frozen (Nat.lt_of_lt_of_le hp hb1.size)).trans (hb1.frozen hp)
      have z0 := fun o => (hz o ⟨w.heap.size, 0, none⟩ (by show w.heap.size < _; omega)).trans r0
      have z1 := fun o => (hz o ⟨w.heap.size, 1, none⟩ (by show w.heap.size < _; omega)).trans r1
      have z2 := fun o => (hz o ⟨w.heap.size, 2, none⟩ (by show w.heap.size < _; omega)).trans r2
      have y0 := fun o => (hz o ⟨w.heap.size + 1, 0, none⟩ (by show w.heap.size + 1 < _; omega)).trans x0
      have y1 := fun o => (hz o ⟨w.heap.size + 1, 1, none⟩ (by show w.heap.size + 1 < _; omega)).trans x1
      have y2 := fun o => (hz o ⟨w.heap.size + 1, 2, none⟩ (by show w.heap.size + 1 < _; omega)).trans x2
      have Hg0 : Hid (∀ o i, (w1.alloc o).frozen? ⟨w.heap.size, i, none⟩ = false) := fun o i => (hzf o ⟨w.heap.size, i, none⟩ (by show w.heap.size < _; omega)).trans (Hf0.out i)
      have Hg1 : Hid (∀ o i, (w1.alloc o).frozen? ⟨w.heap.size + 1, i, none⟩ = false) := fun o i => (hzf o ⟨w.heap.size + 1, i, none⟩ (by show w.heap.size + 1 < _; omega)).trans (Hf1.out i)
      have g00 := fun o => Hg0.out o 0; have g01 := fun o => Hg0.out o 1; have g02 := fun o => Hg0.out o 2
      have g10 := fun o => Hg1.out o 0; have g11 := fun o => Hg1.out o 1; have g12 := fun o => Hg1.out o 2
      have Hown1 := Lib.hid (Hown.out.new_ hb1 hbw.size)
      have hbw1 := nt hbw hb1
      have hsz1 : w.heap.size + 2 ≤ w1.heap.size := Nat.le_trans hsz hb1.size
      have Hp1 := Lib.hid hp1
      have Hb1 := Lib.hid hb1
      have Hc := Lib.hid (And.intro r0 (And.intro r1 (And.intro r2 (And.intro x0 (And.intro x1 x2)))))
      clear hz hzf f00 f01 f02 f10 f11 f12 r0 r1 r2 x0 x1 x2 hp1 hb1 Hf Hown
      have hD : b.drop used ≠ [] := fun e => by
        have := congrArg List.length e
        rw [List.length_drop, Hn.out] at this; simp at this; omega
      by_cases he : (first (b.drop used)).2.2 = 0
      · have Hs2 := Lib.hid (scan_go he)
        have Hok := Lib.hid (first_ok he)
        have hn9 : 9 ≤ (first (b.drop used)).2.1 := Hok.out.2.1
        have hnl : used + (first (b.drop used)).2.1 ≤ n := by have := Hok.out.2.2; rw [List.length_drop, Hn.out] at this; omega
        rw [he]
        clear he
        generalize hp : (first (b.drop used)).1 = p at *
        generalize hm : (first (b.drop used)).2.1 = m at *
        have Hp := Lib.hid hp
        have Hm := Lib.hid hm
        clear hp hm hD
        obtain ⟨vs, hr, hels⟩ := Hown1.out
        have Hr := Lib.hid hr
        have Hels := Lib.hid hels
        clear hr hels Hown1
        go_wp2_with (at_builtin; refine wpList_append_one rfl (.tmp 23) (.tmp 26) 43 22 (.slice none 0 0) 24 rfl Try.underlying43 slinfo rfl (w.heap.size + 2) (.slice vA ps.length vc) ps.length vs rfl (World.ownsRow.alloc (World.ownsRow.alloc Hr.out _) _) ⟨w1.heap.size + 1, 0, none⟩ 1 (.slice A' p.length c') rfl (by simp [go_sem]) rfl (by simp only [maxLen]; omega) (by omega) (by simp; omega) ?_
                     intro g cap2 w2 hr2 hg2 hat2
                     have hb3 : Below (w.heap.size + 2) w1 w2 := Below.grown ((na (na (nr w1) _) _).mono hsz1) hg2 (by simp; omega) (fun q e => (World.ownsRow.lt Hr.out q e).1)
                     have Hl := Lib.hid (OwnA.snoc (World.ownsRow.alloc (World.ownsRow.alloc Hr.out _) _) (fun i l h => by obtain ⟨A, c, h1, h2⟩ := Hels.out i l h; exact ⟨A, c, h1, Bytes.below h2 ((na (na (nr w1) _) _).mono (Nat.le_trans (Nat.le_add_right _ 2) hsz1))⟩) (Bytes.below Hp1.out ((na (na (nr w1) _) _).mono (Nat.le_trans (Nat.le_add_right _ 2) hsz1))) hr2 (Below.grown (Below.refl _ _) hg2 (by simp; omega) (fun q e => by have := (World.ownsRow.lt Hr.out q e).1; omega)))
                     have hm2 : w2.cell? ⟨w1.heap.size, 1, none⟩ = some (.int .i64 m) := (World.cell?_of_block (hg2.block w1.heap.size (by simp; omega) (fun e => by have := (World.ownsRow.lt Hr.out _ e.symm).2; omega))).trans (by simp [go_sem])
                     have hz : ∀ p : Addr, p.block < w.heap.size + 2 → w2.cell? p = wr.cell? p := fun p hp => (hb3.cell hp).trans (Hb1.out.cell (Nat.lt_of_lt_of_le hp hsz))
                     have hzf : ∀ p : Addr, p.block < w.heap.size + 2 → w2.frozen? p = wr.frozen? p := fun p hp => (hb3.frozen hp).trans (Hb1.out.frozen (Nat.lt_of_lt_of_le hp hsz))
                     have Hg0 : Hid (∀ i, w2.frozen? ⟨w.heap.size, i, none⟩ = false) := fun i => (hzf ⟨w.heap.size, i, none⟩ (by show w.heap.size < _; omega)).trans (Hf0.out i)
                     have Hg1 : Hid (∀ i, w2.frozen? ⟨w.heap.size + 1, i, none⟩ = false) := fun i => (hzf ⟨w.heap.size + 1, i, none⟩ (by show w.heap.size + 1 < _; omega)).trans (Hf1.out i)
                     have q0 := (hz ⟨w.heap.size, 0, none⟩ (by show w.heap.size < _; omega)).trans Hc.out.1
                     have q1 := (hz ⟨w.heap.size, 1, none⟩ (by show w.heap.size < _; omega)).trans Hc.out.2.1
                     have q2 := (hz ⟨w.heap.size, 2, none⟩ (by show w.heap.size < _; omega)).trans Hc.out.2.2.1
                     have p0 := (hz ⟨w.heap.size + 1, 0, none⟩ (by show w.heap.size + 1 < _; omega)).trans Hc.out.2.2.2.1
                     have p1 := (hz ⟨w.heap.size + 1, 1, none⟩ (by show w.heap.size + 1 < _; omega)).trans Hc.out.2.2.2.2.1
                     have p2 := (hz ⟨w.heap.size + 1, 2, none⟩ (by show w.heap.size + 1 < _; omega)).trans Hc.out.2.2.2.2.2
                     have t10 := Hg1.out 0; have t11 := Hg1.out 1
                     have Hz := Lib.hid (And.intro q0 (And.intro q1 (And.intro q2 p2)))
                     have hbw2 : Below w.heap.size w w2 := hbw1.trans (hb3.mono (by omega))
                     have hsz2 : w.heap.size + 2 ≤ w2.heap.size := Nat.le_trans hsz1 hb3.size
                     clear hr2 hg2 hat2 hb3 hz hzf q0 q1 q2 p2 z0 z1 z2 y0 y1 y2 g00 g01 g02 g10 g11 g12)
        go_roundg (n - (used + m))
        case measure => omega
        case rel =>
          have hne : (⟨w.heap.size + 1, 0, none⟩ : Addr) ≠ ⟨w.heap.size + 1, 1, none⟩ := by simp
          refine ⟨used + m, .slice (some ⟨g, 0, none⟩) (ps.length + 1) cap2, ps ++ [p], by omega, by rw [List.length_append]; simp; omega, (Hl.out.set_ (by show w.heap.size + 1 < _; omega) (by show _ ≤ w.heap.size + 1; omega) _).set_ (by show w.heap.size + 1 < _; omega) (by show _ ≤ w.heap.size + 1; omega) _, ?_, (hbw2.setCell (by show _ ≤ w.heap.size + 1; omega) _).setCell (by show _ ≤ w.heap.size + 1; omega) _, by simp [World.setCell]; omega, fun i => ?_, fun i => ?_, ?_, ?_, ?_, ?_, ?_, ?_⟩
          · have h1 := Hs.out
            rw [Hs2.out, List.drop_drop] at h1
            rw [h1]
            simp [Nat.add_assoc]
          · rw [World.frozen?_setCell, World.frozen?_setCell]; exact Hg0.out i
          · rw [World.frozen?_setCell, World.frozen?_setCell]; exact Hg1.out i
          · rw [World.cell?_setCell_other _ _ _ _ (by simp), World.cell?_setCell_other _ _ _ _ (by simp)]; exact Hz.out.1
          · rw [World.cell?_setCell_other _ _ _ _ (by simp), World.cell?_setCell_other _ _ _ _ (by simp)]; exact Hz.out.2.1
          · rw [World.cell?_setCell_other _ _ _ _ (by simp), World.cell?_setCell_other _ _ _ _ (by simp)]; exact Hz.out.2.2.1
          · rw [World.cell?_setCell_other _ _ _ _ (by simp)]; exact World.cell?_setCell_same _ _ _ p0
          · exact (World.cell?_setCell_same _ _ _ ((World.cell?_setCell_other _ _ _ _ (by simp)).trans p1)).trans (by rw [Int.natCast_add])
          · rw [World.cell?_setCell_other _ _ _ _ (by simp), World.cell?_setCell_other _ _ _ _ (by simp)]; exact Hz.out.2.2.2
      · have Hs2 := Lib.hid (scan_stop hD he)
        have hq2 : ((first (b.drop used)).2.2 != 0) = true := by rw [bne_iff_ne]; exact he
        clear hD
        generalize (first (b.drop used)).2.2 = er at *
        go_wp2_with fail
        refine bodyPost_ret (v := .agg #[.slice vA ps.length vc, .int .i64 used, .int .i64 er]) (by simp [results, Try.results25, go_sem, z0, z1, z2]) rfl ⟨.slice vA ps.length vc, ?_, ?_, ?_⟩
        · rw [Hs.out, Hs2.out]; simp
        · rw [Hs.out, Hs2.out]
          simp only [List.append_nil]
          have h0 := fun o => (Hown1.out.new_ (na (nr w1) o) hbw1.size)
          exact ((((h0 _).set_ (by show w.heap.size + 1 < _; omega) (by show _ ≤ w.heap.size + 1; omega) _).set_ (by show w.heap.size < _; omega) (Nat.le_refl _) _).set_ (by show w.heap.size < _; omega) (Nat.le_refl _) _).set_ (by show w.heap.size < _; omega) (Nat.le_refl _) _
        · exact ((((na hbw1 _).setCell (by show _ ≤ w.heap.size + 1; omega) _).setCell (Nat.le_refl _) _).setCell (Nat.le_refl _) _).setCell (Nat.le_refl _) _
end Go.Proofs.Ytlepallialmceaa
