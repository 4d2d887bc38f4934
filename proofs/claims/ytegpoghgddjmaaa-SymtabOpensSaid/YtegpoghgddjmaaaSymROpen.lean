/- The walk of the document's Open: the texts that any bytes are. -/
import Derived.Test.YtegpoghgddjmaaaSymAll
import Derived.Test.YtegpoghgddjmaaaSymOpen
import Derived.Test.YtegpoghgddjmaaaRefNum
namespace Go.Proofs.Ytegpoghgddjmaaa
open Go.RowKit
set_option maxRecDepth 100000

def gotL (l : List UInt8) : List (List UInt8) := if (openS l).1 = 0 then (openS l).2 else []
def ROpenPost (l : List UInt8) (w : World) (e : Ending) (w' : World) : Prop :=
  ∃ A n c, e = .returned (.agg #[.slice A n c, .int .i64 (openS l).1]) ∧ OwnS w' w.heap.size (.slice A n c) (gotL l) ∧ Below w.heap.size w w'
/-- The answer's cells (p), the number's cells (q), the texts so far. -/
structure SR (w W : World) (p q : Nat) (V N : Nat) (E : Int) (o : Value) (T : List (List UInt8)) : Prop where
  gs : GS W q V N E
  r0 : W.cell? ⟨p, 0, none⟩ = some (.slice none 0 0)
  r1 : W.cell? ⟨p, 1, none⟩ = some (.int .i64 0)
  z0 : W.frozen? ⟨p, 0, none⟩ = false
  z1 : W.frozen? ⟨p, 1, none⟩ = false
  own : OwnS W (q + 1) o T
  below : Below w.heap.size w W
  wp : w.heap.size ≤ p
  pq : p < q
  qs : q < W.heap.size
section
variable {w W : World} {p q V N : Nat} {E : Int} {o : Value} {T : List (List UInt8)}
theorem SR.later (h : SR w W p q V N E o T) {W' : World} (hb : Below W.heap.size W W') : SR w W' p q V N E o T := by
  have hp := Nat.lt_trans h.pq h.qs
  exact ⟨h.gs.keep (hb.block q h.qs), (hb.cell (p := ⟨p, 0, none⟩) hp).trans h.r0, (hb.cell (p := ⟨p, 1, none⟩) hp).trans h.r1, (hb.frozen (p := ⟨p, 0, none⟩) hp).trans h.z0, (hb.frozen (p := ⟨p, 1, none⟩) hp).trans h.z1, ownsRow_new h.own hb, h.below.trans (hb.mono h.below.size), h.wp, h.pq, Nat.lt_of_lt_of_le h.qs hb.size⟩
theorem SR.put_ (h : SR w W p q V N E o T) (k : Nat) (v : Value) {V' N' : Nat} {E' : Int} (hg : GS (W.setCell ⟨q, k, none⟩ v) q V' N' E') : SR w (W.setCell ⟨q, k, none⟩ v) p q V' N' E' o T := by
  have hpb : (W.setCell ⟨q, k, none⟩ v).heap[p]? = W.heap[p]? := Below.heap_setCell _ _ _ _ (show p ≠ q from Nat.ne_of_lt h.pq)
  exact ⟨hg, (World.cell?_of_block hpb).trans h.r0, (World.cell?_of_block hpb).trans h.r1, (World.frozen?_of_block hpb).trans h.z0, (World.frozen?_of_block hpb).trans h.z1, ownsRow_setCell_below h.own (by show q < q + 1; omega) _, h.below.setCell (show w.heap.size ≤ q by have := h.wp; have := h.pq; omega) _, h.wp, h.pq, by simpa [World.setCell] using h.qs⟩
theorem SR.store (h : SR w W p q V N E o T) (V' N' : Nat) (E' : Int) : SR w (((W.setCell ⟨q, 0, none⟩ (.int .u64 V')).setCell ⟨q, 1, none⟩ (.int .i64 N')).setCell ⟨q, 2, none⟩ (.int .i64 E')) p q V' N' E' o T := by
  have h1 := h.put_ 0 _ (h.gs.s0 V')
  have h2 := h1.put_ 1 _ (h1.gs.s1 N')
  exact h2.put_ 2 _ (h2.gs.s2 E')
theorem SR.grow (h : SR w W p q V N E o T) {W' w1 : World} {g cap : Nat} {s : List UInt8} (hW : Below W.heap.size W W') (ho : w1.ownsRow (q + 1) 9 1 (.slice (some ⟨g, 0, none⟩) (T.length + 1) cap) (T.length + 1) (T.map S8 ++ [S8 s])) (hg : W'.grownBy w1 o.ownBlock) :
    SR w w1 p q V N E (.slice (some ⟨g, 0, none⟩) (T.length + 1) cap) (T ++ [s]) := by
  have hs := hW.size
  have hqs := h.qs
  have hpq := h.pq
  have hne : ∀ k, k ≤ q → some k ≠ o.ownBlock := fun k hk e => by have := (World.ownsRow.lt h.own k e.symm).1; omega
  have hb : ∀ k, k ≤ q → w1.heap[k]? = W.heap[k]? := fun k hk => (hg.block k (by omega) (hne k hk)).trans (hW.block k (by omega))
  refine ⟨h.gs.keep (hb q (Nat.le_refl _)), (World.cell?_of_block (hb p (by omega))).trans h.r0, (World.cell?_of_block (hb p (by omega))).trans h.r1, (World.frozen?_of_block (hb p (by omega))).trans h.z0, (World.frozen?_of_block (hb p (by omega))).trans h.z1, ?_, ?_, h.wp, h.pq, by have := hg.size; omega⟩
  · unfold OwnS
    rw [List.length_append, List.map_append]
    exact ho
  · have hws := h.below.size
    exact (h.below.trans (hW.mono hws)).grown hg (by omega) (fun k e => by have := (World.ownsRow.lt h.own k e).1; have := h.wp; omega)
theorem SR.ends (h : SR w W p q V N E o T) (v : Value) (k : Int) : Below w.heap.size w ((W.setCell ⟨p, 0, none⟩ v).setCell ⟨p, 1, none⟩ (.int .i64 k)) ∧ ((W.setCell ⟨p, 0, none⟩ v).setCell ⟨p, 1, none⟩ (.int .i64 k)).cell? ⟨p, 0, none⟩ = some v ∧ ((W.setCell ⟨p, 0, none⟩ v).setCell ⟨p, 1, none⟩ (.int .i64 k)).cell? ⟨p, 1, none⟩ = some (.int .i64 k) := by
  refine ⟨(h.below.setCell h.wp _).setCell h.wp _, ?_, ?_⟩
  · rw [World.cell?_setCell_other _ _ _ _ (by simp)]; exact World.cell?_setCell_same _ _ _ h.r0
  · have h1 : (W.setCell ⟨p, 0, none⟩ v).cell? ⟨p, 1, none⟩ = some (.int .i64 0) := by rw [World.cell?_setCell_other _ _ _ _ (by simp)]; exact h.r1
    exact World.cell?_setCell_same _ _ _ h1
theorem SR.made {w1 : World} (hb : Below w.heap.size w w1) (h0 : w1.cell? ⟨w.heap.size, 0, none⟩ = some (.slice none 0 0)) (h1 : w1.cell? ⟨w.heap.size, 1, none⟩ = some (.int .i64 0)) (z0 : w1.frozen? ⟨w.heap.size, 0, none⟩ = false) (z1 : w1.frozen? ⟨w.heap.size, 1, none⟩ = false) (hs : w.heap.size < w1.heap.size) (V N : Nat) (E : Int) :
    SR w (w1.alloc (.cells #[.int .u64 V, .int .i64 N, .int .i64 E] 47)) w.heap.size w1.heap.size V N E (.slice none 0 0) [] := by
  have ha := na (nr w1) (.cells #[.int .u64 V, .int .i64 N, .int .i64 E] 47)
  exact ⟨⟨cell_of_row _ _ _ _ _ _ (heap_alloc_new w1 _), cell_of_row _ _ _ _ _ _ (heap_alloc_new w1 _), cell_of_row _ _ _ _ _ _ (heap_alloc_new w1 _), World.frozen?_alloc_new w1 _ _ 0, World.frozen?_alloc_new w1 _ _ 1, World.frozen?_alloc_new w1 _ _ 2⟩,
    (ha.cell (p := ⟨w.heap.size, 0, none⟩) hs).trans h0, (ha.cell (p := ⟨w.heap.size, 1, none⟩) hs).trans h1, (ha.frozen (p := ⟨w.heap.size, 0, none⟩) hs).trans z0, (ha.frozen (p := ⟨w.heap.size, 1, none⟩) hs).trans z1, World.ownsRow_nil _ _ _ _, na hb _, Nat.le_refl _, hs, by simp⟩
end
theorem ropen_no {l : List UInt8} {w W : World} {k : Int} (ho : (openS l).1 = k) (hk : k ≠ 0) (h : Below w.heap.size w W) : ROpenPost l w (.returned (.agg #[.slice none 0 0, .int .i64 k])) W := by
  refine ⟨none, 0, 0, by rw [ho], ?_, h⟩
  unfold gotL
  rw [ho, if_neg hk]
  exact World.ownsRow_nil _ _ _ _
theorem bytes_part2 {w : World} {B b off : Nat} {l : List UInt8} (h : Bytes w B (some ⟨b, off, none⟩) l) (k m : Nat) : Bytes w B (some ⟨b, off + k, none⟩) ((l.drop k).take m) := fun hp => by
  have hl : 0 < l.length := by rw [List.length_take, List.length_drop] at hp; omega
  obtain ⟨b', off', e, hb, hc⟩ := h hl
  injection e with e
  injection e with e1 e2
  subst e1 e2
  refine ⟨_, _, rfl, hb, fun j y hy => ?_⟩
  have hj : j < m := by
    rcases Nat.lt_or_ge j m with h | h
    · exact h
    · rw [List.getElem?_take, if_neg (by omega)] at hy; cases hy
  rw [List.getElem?_take, if_pos hj, List.getElem?_drop] at hy
  rw [Nat.add_assoc]
  exact hc _ _ hy
theorem own_rebase {w : World} {base base' n : Nat} {e : TypeId} {v : Value} {xs : List Value} (h : w.ownsRow base e 1 v n xs) (hb : base' ≤ base) : w.ownsRow base' e 1 v n xs := by
  rcases h.2 with h0 | ⟨g, cap, cur, hv, hbg, r⟩
  · exact ⟨h.1, .inl h0⟩
  · exact ⟨h.1, .inr ⟨g, cap, cur, hv, Nat.le_trans hb hbg, r⟩⟩
def ROpAt (l : List UInt8) (w W : World) (p q n k at_ : Nat) (a : List UInt8) (o : Value) : Prop :=
  ∃ V N E T, SR w W p q V N E o T ∧ T.length = k ∧ at_ ≤ l.length ∧ a.length ≤ 400 ∧ openS l = ((moreS l (n - k) at_ k a).1, T ++ (moreS l (n - k) at_ k a).2)
set_option maxHeartbeats 16000000 in
theorem ropen_any (A : Option Addr) (n cap : Nat) (l : List UInt8) (w : World) (hA : Bytes w w.heap.size A l) (hn : l.length = n) (hc : n ≤ cap ∧ cap ≤ 9223372036854775807) (hl : n ≤ 140737488355328) :
    Calls Try.prog 76 #[.slice A n cap] w (ROpenPost l w) := by
  have hb1 := na (nr w) (.cells #[.slice none 0 0, .int .i64 0] 98)
  have hg0 := rgetnum_any A n cap l 0 _ ((hA.below hb1).more hb1.size) hn hl (by omega)
  have HN := Lib.hid (And.intro hA hn)
  clear hA hn
  obtain ⟨⟨V, N, E⟩, hg⟩ : ∃ r, getNum (l.drop 0) = r := ⟨_, rfl⟩
  unfold RGetPost at hg0
  rw [hg] at hg0
  have Hg0 := Lib.hid hg0
  have Hg := Lib.hid hg
  have Hf := Lib.hid (getNum_fits hg (Nat.zero_le _))
  clear hg hg0
  go_enter Try.func76, Try.ntmps76
  go_wp2_with fail
  refine Hg0.out.mono ?_
  rintro e w1 ⟨rfl, hb2⟩
  have hsz := hb2.size
  simp only [World.size_alloc] at hsz
  have HS := Lib.hid (SR.made (nt hb1 hb2) ((hb2.cell (p := ⟨w.heap.size, 0, none⟩) (by simp)).trans (cell_of_row _ _ _ _ _ _ (heap_alloc_new w _))) ((hb2.cell (p := ⟨w.heap.size, 1, none⟩) (by simp)).trans (cell_of_row _ _ _ _ _ _ (heap_alloc_new w _)))
    ((hb2.frozen (p := ⟨w.heap.size, 0, none⟩) (by simp)).trans (World.frozen?_alloc_new w _ _ 0)) ((hb2.frozen (p := ⟨w.heap.size, 1, none⟩) (by simp)).trans (World.frozen?_alloc_new w _ _ 1)) (by omega) V N E)
  clear Hg0 hb1 hb2 hsz
  go_upto_region 2 with fail
  generalize w1.alloc (.cells #[.int .u64 (V : Nat), .int .i64 (N : Nat), .int .i64 E] 47) = W2 at *
  generalize w1.heap.size = q at *
  obtain ⟨p, hp⟩ : ∃ p, w.heap.size = p := ⟨_, rfl⟩
  rw [hp] at HS ⊢
  have Hp := Lib.hid hp
  clear hp
  obtain ⟨⟨g0, g1, g2, f0, f1, f2⟩, r0, r1, z0, z1, _⟩ := id HS.out
  by_cases hE : E = 0
  · subst hE
    by_cases hV4 : 4096 < V
    · have hV4i : (4096 : Int) < (V : Int) := by omega
      have Ho := Lib.hid (show (openS l).1 = 4 by unfold openS; rw [show getNum l = (V, N, 0) from Hg.out, if_neg (by simp), if_pos hV4])
      go_wp2_with fail
      exact bodyPost_ret (v := .agg #[.slice none 0 0, .int .i64 4]) (by simp [results, Try.results76, go_sem, (HS.out.ends (.slice none 0 0) 4).2]) rfl (ropen_no Ho.out (by decide) (HS.out.ends (.slice none 0 0) 4).1)
    have hV4i : (V : Int) ≤ 4096 := by omega
    have h0 : Hid (ROpAt l w W2 p q V 0 N [] (.slice none 0 0)) := ⟨V, N, 0, [], HS.out, rfl, by have := Hf.out.1; omega, by simp, by unfold openS; rw [show getNum l = (V, N, 0) from Hg.out, if_neg (by simp), if_neg hV4]; rfl⟩
    have Hcc := Lib.hid hc
    go_wp2_with fail
    clear g0 g1 g2 f0 f1 f2 r0 r1 z0 z1 Hg Hf HS hc
    go_loopg [5, 6, 7, 8] V (fun g s5 o s7 i wr => g ≤ V ∧ i = .int .i64 ((V - g : Nat) : Int) ∧ ∃ (at_ : Nat) (a : List UInt8), s5 = .int .i64 at_ ∧ s7 = S8 a ∧ Hid (ROpAt l w wr p q V (V - g) at_ a o))
    case atStart => exact ⟨Nat.le_refl _, by simp, N, [], rfl, rfl, by rw [Nat.sub_self]; exact h0⟩
    case round =>
      obtain ⟨hk, rfl, at_, a, rfl, rfl, hR⟩ := hrel
      obtain ⟨o, ho_⟩ : ∃ o, o = u6 := ⟨_, rfl⟩
      subst ho_
      obtain ⟨k, hkk⟩ : ∃ k, V - gk = k := ⟨_, rfl⟩
      rw [hkk] at hR ⊢
      obtain ⟨V1, N1, E1, T, hS, hlen, hat, hal, hop⟩ := hR.out
      have HS1 := Lib.hid hS
      have hatn : at_ ≤ n := by rw [← HN.out.2]; exact hat
      have hati : (at_ : Int) ≤ (n : Int) := by omega
      by_cases hk0 : gk = 0
      · obtain rfl : k = V := by omega
        rw [Nat.sub_self] at hop
        unfold moreS at hop
        rw [HN.out.2] at hop
        obtain ⟨A1, c1, rfl⟩ := ownsRow_form hS.own
        obtain ⟨⟨g0, g1, g2, f0, f1, f2⟩, r0, r1, z0, z1, _⟩ := hS
        have HL := Lib.hid hlen
        by_cases hend : at_ < n
        · rw [if_pos hend] at hop
          have hendi : (at_ : Int) < (n : Int) := by omega
          have Ho := Lib.hid (show (openS l).1 = 3 by rw [hop])
          clear hop hR hlen
          go_wp2_with fail
          exact bodyPost_ret (v := .agg #[.slice none 0 0, .int .i64 3]) (by simp [results, Try.results76, go_sem, (HS1.out.ends (.slice none 0 0) 3).2]) rfl (ropen_no Ho.out (by decide) (HS1.out.ends (.slice none 0 0) 3).1)
        · rw [if_neg hend, List.append_nil] at hop
          have hendi : (n : Int) ≤ (at_ : Int) := by omega
          have Ho := Lib.hid hop
          clear hop hR hlen
          go_wp2_with fail
          refine bodyPost_ret (v := .agg #[.slice A1 T.length c1, .int .i64 0]) (by simp [results, Try.results76, go_sem, (HS1.out.ends (.slice A1 T.length c1) 0).2]) rfl ⟨A1, T.length, c1, by rw [Ho.out], ?_, (HS1.out.ends (.slice A1 T.length c1) 0).1⟩
          unfold gotL
          rw [Ho.out, if_pos rfl]
          have hpq := HS1.out.pq
          have hwp := HS1.out.wp
          have hown := ownsRow_setCell_below (ownsRow_setCell_below HS1.out.own (a := ⟨p, 0, none⟩) (by show p < q + 1; omega) (.slice A1 T.length c1)) (a := ⟨p, 1, none⟩) (by show p < q + 1; omega) (.int .i64 0)
          exact own_rebase hown (by omega)
      · have hkn : k < V := by omega
        have hki : (k : Int) < (V : Int) := by omega
        have hgi : Hid (V - (gk - 1) = k + 1) := show _ = _ by omega
        obtain ⟨A1, c1, rfl⟩ := ownsRow_form hS.own
        have Hop := Lib.hid hop
        have Hlen := Lib.hid hlen
        have hTl : T.length ≤ 4096 := by omega
        clear hop hR hlen
        obtain ⟨⟨m, N2, E2⟩, hg⟩ : ∃ r, getNum (l.drop at_) = r := ⟨_, rfl⟩
        have hg1 := fun W (h : Below w.heap.size w W) => rgetnum_any A n cap l at_ W ((HN.out.1.below h).more h.size) HN.out.2 hl (by omega)
        unfold RGetPost at hg1
        rw [hg] at hg1
        have Hg1 := Lib.hid hg1
        have Hga := Lib.hid hg
        have Hfa := Lib.hid (getNum_fits hg hat)
        clear hg hg1
        obtain ⟨⟨g0, g1, g2, f0, f1, f2⟩, r0, r1, z0, z1, _⟩ := id HS1.out
        clear hS
        go_wp2_with fail
        refine (Hg1.out wr HS1.out.below).mono ?_
        rintro e w3 ⟨rfl, hb3⟩
        have HS3 := Lib.hid (HS1.out.later hb3)
        clear g0 g1 g2 f0 f1 f2 r0 r1 z0 z1 hb3
        obtain ⟨⟨g0, g1, g2, f0, f1, f2⟩, r0, r1, z0, z1, _⟩ := id HS3.out
        go_upto_region 14 with fail
        have HS4 := Lib.hid (HS3.out.store m N2 E2)
        clear g0 g1 g2 f0 f1 f2 r0 r1 z0 z1 HS3
        generalize ((w3.setCell ⟨q, 0, none⟩ (.int .u64 (m : Nat))).setCell ⟨q, 1, none⟩ (.int .i64 (N2 : Nat))).setCell ⟨q, 2, none⟩ (.int .i64 E2) = w4 at *
        obtain ⟨⟨g0, g1, g2, f0, f1, f2⟩, r0, r1, z0, z1, _⟩ := id HS4.out
        by_cases hE2 : E2 = 0
        · subst hE2
          by_cases hm4 : 400 < m
          · have hm4i : (400 : Int) < (m : Int) := by omega
            have Ho := Lib.hid (show (openS l).1 = 4 from NoText Hop.out hkn (oneS_2 Hga.out hm4) (by decide))
            go_wp2_with fail
            exact bodyPost_ret (v := .agg #[.slice none 0 0, .int .i64 4]) (by simp [results, Try.results76, go_sem, (HS4.out.ends (.slice none 0 0) 4).2]) rfl (ropen_no Ho.out (by decide) (HS4.out.ends (.slice none 0 0) 4).1)
          have hm4i : (m : Int) ≤ 400 := by omega
          obtain ⟨b1, hb1⟩ : ∃ b1, at_ + N2 = b1 := ⟨_, rfl⟩
          have hb1n : b1 ≤ n := by have := Hfa.out.1; rw [HN.out.2] at this; omega
          have hai : (at_ : Int) + (N2 : Int) = (b1 : Int) := by omega
          have Hb1 := Lib.hid hb1
          obtain ⟨⟨V2, N3, E3⟩, hg⟩ : ∃ r, getNum (l.drop b1) = r := ⟨_, rfl⟩
          have hg1 := fun W (h : Below w.heap.size w W) => rgetnum_any A n cap l b1 W ((HN.out.1.below h).more h.size) HN.out.2 hl (by omega)
          unfold RGetPost at hg1
          rw [hg] at hg1
          have Hg2 := Lib.hid hg1
          have Hgb := Lib.hid (show getNum (l.drop (at_ + N2)) = (V2, N3, E3) by rw [hb1]; exact hg)
          have Hfb := Lib.hid (getNum_fits hg (by rw [HN.out.2]; exact hb1n))
          clear hg hg1 hb1
          go_wp2_with fail
          refine (Hg2.out w4 HS4.out.below).mono ?_
          rintro e w5 ⟨rfl, hb5⟩
          have HS5 := Lib.hid (HS4.out.later hb5)
          clear g0 g1 g2 f0 f1 f2 r0 r1 z0 z1 hb5 HS4
          obtain ⟨⟨g0, g1, g2, f0, f1, f2⟩, r0, r1, z0, z1, _⟩ := id HS5.out
          go_upto_region 21 with fail
          have HS6 := Lib.hid (HS5.out.store V2 N3 E3)
          clear g0 g1 g2 f0 f1 f2 r0 r1 z0 z1 HS5
          generalize ((w5.setCell ⟨q, 0, none⟩ (.int .u64 (V2 : Nat))).setCell ⟨q, 1, none⟩ (.int .i64 (N3 : Nat))).setCell ⟨q, 2, none⟩ (.int .i64 E3) = w6 at *
          obtain ⟨⟨g0, g1, g2, f0, f1, f2⟩, r0, r1, z0, z1, _⟩ := id HS6.out
          by_cases hE3 : E3 = 0
          · subst hE3
            by_cases hV24 : 400 < V2
            · have hV24i : (400 : Int) < (V2 : Int) := by omega
              have Ho := Lib.hid (show (openS l).1 = 4 from NoText Hop.out hkn (oneS_4 Hga.out hm4 Hgb.out hV24) (by decide))
              go_wp2_with fail
              exact bodyPost_ret (v := .agg #[.slice none 0 0, .int .i64 4]) (by simp [results, Try.results76, go_sem, (HS6.out.ends (.slice none 0 0) 4).2]) rfl (ropen_no Ho.out (by decide) (HS6.out.ends (.slice none 0 0) 4).1)
            have hV24i : (V2 : Int) ≤ 400 := by omega
            obtain ⟨b2, hb2⟩ : ∃ b2, b1 + N3 = b2 := ⟨_, rfl⟩
            have hb2n : b2 ≤ n := by have := Hfb.out.1; rw [HN.out.2] at this; omega
            have hai2 : (b1 : Int) + (N3 : Int) = (b2 : Int) := by omega
            have Hb2 := Lib.hid (show at_ + N2 + N3 = b2 by rw [Hb1.out]; exact hb2)
            have hb2i : (b2 : Int) ≤ (n : Int) := by omega
            clear hb2
            by_cases hs : n - b2 < V2
            · have hsi : (n : Int) - (b2 : Int) < (V2 : Int) := by omega
              have Ho := Lib.hid (show (openS l).1 = 2 from NoText Hop.out hkn (oneS_5 Hga.out hm4 Hgb.out hV24 (by rw [Hb2.out, HN.out.2]; exact hs)) (by decide))
              go_wp2_with fail
              exact bodyPost_ret (v := .agg #[.slice none 0 0, .int .i64 2]) (by simp [results, Try.results76, go_sem, (HS6.out.ends (.slice none 0 0) 2).2]) rfl (ropen_no Ho.out (by decide) (HS6.out.ends (.slice none 0 0) 2).1)
            have hsi : (V2 : Int) ≤ (n : Int) - (b2 : Int) := by omega
            have hsn : ¬ l.length - (at_ + N2 + N3) < V2 := by rw [Hb2.out, HN.out.2]; exact hs
            obtain ⟨rest, hrest⟩ : ∃ rest, (l.drop b2).take V2 = rest := ⟨_, rfl⟩
            have hrl : rest.length = V2 := by rw [← hrest, List.length_take, List.length_drop, HN.out.2]; omega
            have Hrest := Lib.hid hrest
            have Hsn := Lib.hid hsn
            have hDi : (b2 : Int) + (V2 : Int) ≤ (n : Int) := by omega
            have hcap2 := Hcc.out
            have hnc : (n : Int) ≤ (cap : Int) := by omega
            have hcc : (cap : Int) ≤ 9223372036854775807 := by omega
            have hb2c : b2 ≤ cap := by omega
            clear hcap2 hsn hrest
            go_upto_region 28 with fail
            go_cut [10] from 80 to 88 (fun s10 wx => s10 = S8 rest ∧ wx = w6)
            case first =>
              by_cases hV0 : V2 = 0
              · obtain rfl : rest = [] := List.eq_nil_of_length_eq_zero (by omega)
                have r1 := fun A' c' => run_str w6 0 A' 0 c' [] (Bytes.nil_ A') rfl
                subst hV0
                clear hrl Hrest
                by_cases hce : cap = b2
                all_goals (try subst hce)
                all_goals (
                  go_wp2_with fail
                  go_meet
                  case rel => exact ⟨rfl, rfl⟩)
              · have hi0 : 0 < l.length := by rw [HN.out.2]; omega
                obtain ⟨b0, off0, rfl, _, _⟩ := HN.out.1 hi0
                have hce : ¬ (cap = b2) := by omega
                have r1 := run_str w6 _ (some ⟨b0, off0 + b2, none⟩) V2 (cap - b2) rest (by rw [← Hrest.out]; exact bytes_part2 (HN.out.1.below HS6.out.below) _ _) hrl
                clear hi0
                go_wp2_with fail
                go_meet
                case rel => exact ⟨rfl, rfl⟩
            case rest =>
              obtain ⟨rfl, rfl⟩ := hcut
              by_cases hal2 : a.length < m
              · have hali : (a.length : Int) < (m : Int) := by omega
                have Ho := Lib.hid (show (openS l).1 = 3 from NoText Hop.out hkn (oneS_6 Hga.out hm4 Hgb.out hV24 Hsn.out hal2) (by decide))
                go_wp2_with fail
                exact bodyPost_ret (v := .agg #[.slice none 0 0, .int .i64 3]) (by simp [results, Try.results76, go_sem, (HS6.out.ends (.slice none 0 0) 3).2]) rfl (ropen_no Ho.out (by decide) (HS6.out.ends (.slice none 0 0) 3).1)
              have hali : (m : Int) ≤ (a.length : Int) := by omega
              obtain ⟨s, hst⟩ : ∃ s, a.take m ++ rest = s := ⟨_, rfl⟩
              have hlt : (a.take m).length = m := by rw [List.length_take]; omega
              have hsl : s.length ≤ 800 := by rw [← hst, List.length_append]; omega
              have q1 := str_take a m
              have q2 := str_add (a.take m) rest
              rw [hst] at q2
              have HSt := Lib.hid (show a.take m ++ (l.drop (at_ + N2 + N3)).take V2 = s by rw [Hb2.out, Hrest.out]; exact hst)
              clear hst
              by_cases hs4 : 400 < s.length
              · have hs4i : (400 : Int) < (s.length : Int) := by omega
                have hf : followsS k a s = 4 := by unfold followsS; rw [if_pos hs4]
                have Ho := Lib.hid (show (openS l).1 = 4 from (NoText Hop.out hkn (oneS_7 Hga.out hm4 Hgb.out hV24 Hsn.out hal2 HSt.out (by rw [hf]; decide)) (by rw [hf]; decide)).trans hf)
                clear hf
                go_wp2_with fail
                exact bodyPost_ret (v := .agg #[.slice none 0 0, .int .i64 4]) (by simp [results, Try.results76, go_sem, (HS6.out.ends (.slice none 0 0) 4).2]) rfl (ropen_no Ho.out (by decide) (HS6.out.ends (.slice none 0 0) 4).1)
              have hs4i : (s.length : Int) ≤ 400 := by omega
              by_cases hbad : 0 < k ∧ (Op.bytesLess s a || s == a) = true
              · obtain ⟨h0k, hq⟩ := hbad
                have h0i : (0 : Int) < (k : Int) := by omega
                have hf : followsS k a s = 9 := by unfold followsS; rw [if_neg hs4, if_pos ⟨h0i, hq⟩]
                have Ho := Lib.hid (show (openS l).1 = 9 from (NoText Hop.out hkn (oneS_7 Hga.out hm4 Hgb.out hV24 Hsn.out hal2 HSt.out (by rw [hf]; decide)) (by rw [hf]; decide)).trans hf)
                clear hf
                go_wp2_with fail
                all_goals (exact bodyPost_ret (v := .agg #[.slice none 0 0, .int .i64 9]) (by simp [results, Try.results76, go_sem, (HS6.out.ends (.slice none 0 0) 9).2]) rfl (ropen_no Ho.out (by decide) (HS6.out.ends (.slice none 0 0) 9).1))
              have Hf0 := Lib.hid (show followsS k a s = 0 by unfold followsS; rw [if_neg hs4, if_neg (fun h => hbad ⟨by omega, h.2⟩)])
              by_cases h0k : 0 < k
              · have h0i : (0 : Int) < (k : Int) := by omega
                have hq : (Op.bytesLess s a || s == a) = false := by
                  cases h : (Op.bytesLess s a || s == a) with
                  | false => rfl
                  | true => exact absurd ⟨h0k, h⟩ hbad
                clear hbad
                have Hsh := Lib.hid (rshared_any k a s wc (by omega) (by omega) (by omega))
                by_cases hz : m = sharedS k a s
                · have Ho := Lib.hid (NextText Hop.out hkn (oneS_9 Hga.out hm4 Hgb.out hV24 Hsn.out hal2 HSt.out Hf0.out hz))
                  rw [← hz] at Hsh
                  clear hz
                  go_wp2_with fail
                  refine Hsh.out.mono ?_
                  rintro e w7 ⟨rfl, hb7⟩
                  have HS7 := Lib.hid (HS6.out.later hb7)
                  clear g0 g1 g2 f0 f1 f2 r0 r1 z0 z1 hb7
                  obtain ⟨⟨g0, g1, g2, f0, f1, f2⟩, r0, r1, z0, z1, _⟩ := id HS7.out
                  go_wp2_with (at_builtin; go_loud (refine wpList_append_one rfl (.tmp 123) (.tmp 125) 78 9 (.string ⟨#[]⟩) 16 rfl Try.underlying78 strInfo rfl (q + 1) (.slice A1 T.length c1) T.length (T.map S8) rfl (ownsRow_new HS7.out.own (na (nr w7) _)) ⟨w7.heap.size, 0, none⟩ 1 (S8 s) rfl (cell_of_row _ _ _ _ _ _ (heap_alloc_new w7 _)) rfl (by simp only [maxLen]; omega) (by omega) (by have := HS7.out.qs; simp; omega) ?_)
                               intro g8 c8 w8 ho8 hg8 hat8
                               have HS8 := Lib.hid (HS7.out.grow (na (nr w7) _) ho8 hg8)
                               clear ho8 hg8 hat8)
                  go_roundg (gk - 1)
                  case measure => omega
                  case rel =>
                    refine ⟨by omega, by rw [hgi.out]; congr 1, b2 + V2, s, by go_num, rfl, ?_⟩
                    rw [hgi.out]
                    have ho := Ho.out
                    rw [Hb2.out] at ho
                    exact ⟨V2, N3, 0, T ++ [s], HS8.out, by rw [List.length_append, Hlen.out]; rfl, by rw [HN.out.2]; omega, by omega, ho⟩
                · have Ho := Lib.hid (show (openS l).1 = 3 from NoText Hop.out hkn (oneS_8 Hga.out hm4 Hgb.out hV24 Hsn.out hal2 HSt.out Hf0.out hz) (by decide))
                  have hzq : ((m : Int) == (sharedS k a s : Int)) = false := by rw [beq_eq_false_iff_ne]; omega
                  generalize sharedS k a s = z at *
                  go_wp2_with fail
                  refine Hsh.out.mono ?_
                  rintro e w7 ⟨rfl, hb7⟩
                  have HS7 := Lib.hid (HS6.out.later hb7)
                  clear g0 g1 g2 f0 f1 f2 r0 r1 z0 z1 hb7
                  obtain ⟨⟨g0, g1, g2, f0, f1, f2⟩, r0, r1, z0, z1, _⟩ := id HS7.out
                  go_wp2_with fail
                  exact bodyPost_ret (v := .agg #[.slice none 0 0, .int .i64 3]) (by simp [results, Try.results76, go_sem, (HS7.out.ends (.slice none 0 0) 3).2]) rfl (ropen_no Ho.out (by decide) (HS7.out.ends (.slice none 0 0) 3).1)
              · have h0i : (k : Int) ≤ 0 := by omega
                clear hbad
                have Hsh := Lib.hid (rshared_any k a s wc (by omega) (by omega) (by omega))
                by_cases hz : m = sharedS k a s
                · have Ho := Lib.hid (NextText Hop.out hkn (oneS_9 Hga.out hm4 Hgb.out hV24 Hsn.out hal2 HSt.out Hf0.out hz))
                  rw [← hz] at Hsh
                  clear hz
                  go_wp2_with fail
                  refine Hsh.out.mono ?_
                  rintro e w7 ⟨rfl, hb7⟩
                  have HS7 := Lib.hid (HS6.out.later hb7)
                  clear g0 g1 g2 f0 f1 f2 r0 r1 z0 z1 hb7
                  obtain ⟨⟨g0, g1, g2, f0, f1, f2⟩, r0, r1, z0, z1, _⟩ := id HS7.out
                  go_wp2_with (at_builtin; go_loud (refine wpList_append_one rfl (.tmp 123) (.tmp 125) 78 9 (.string ⟨#[]⟩) 16 rfl Try.underlying78 strInfo rfl (q + 1) (.slice A1 T.length c1) T.length (T.map S8) rfl (ownsRow_new HS7.out.own (na (nr w7) _)) ⟨w7.heap.size, 0, none⟩ 1 (S8 s) rfl (cell_of_row _ _ _ _ _ _ (heap_alloc_new w7 _)) rfl (by simp only [maxLen]; omega) (by omega) (by have := HS7.out.qs; simp; omega) ?_)
                               intro g8 c8 w8 ho8 hg8 hat8
                               have HS8 := Lib.hid (HS7.out.grow (na (nr w7) _) ho8 hg8)
                               clear ho8 hg8 hat8)
                  go_roundg (gk - 1)
                  case measure => omega
                  case rel =>
                    refine ⟨by omega, by rw [hgi.out]; congr 1, b2 + V2, s, by go_num, rfl, ?_⟩
                    rw [hgi.out]
                    have ho := Ho.out
                    rw [Hb2.out] at ho
                    exact ⟨V2, N3, 0, T ++ [s], HS8.out, by rw [List.length_append, Hlen.out]; rfl, by rw [HN.out.2]; omega, by omega, ho⟩
                · have Ho := Lib.hid (show (openS l).1 = 3 from NoText Hop.out hkn (oneS_8 Hga.out hm4 Hgb.out hV24 Hsn.out hal2 HSt.out Hf0.out hz) (by decide))
                  have hzq : ((m : Int) == (sharedS k a s : Int)) = false := by rw [beq_eq_false_iff_ne]; omega
                  generalize sharedS k a s = z at *
                  go_wp2_with fail
                  refine Hsh.out.mono ?_
                  rintro e w7 ⟨rfl, hb7⟩
                  have HS7 := Lib.hid (HS6.out.later hb7)
                  clear g0 g1 g2 f0 f1 f2 r0 r1 z0 z1 hb7
                  obtain ⟨⟨g0, g1, g2, f0, f1, f2⟩, r0, r1, z0, z1, _⟩ := id HS7.out
                  go_wp2_with fail
                  exact bodyPost_ret (v := .agg #[.slice none 0 0, .int .i64 3]) (by simp [results, Try.results76, go_sem, (HS7.out.ends (.slice none 0 0) 3).2]) rfl (ropen_no Ho.out (by decide) (HS7.out.ends (.slice none 0 0) 3).1)
          · have hq : (E3 == 0) = false := by rw [beq_eq_false_iff_ne]; exact hE3
            have Ho := Lib.hid (show (openS l).1 = E3 from NoText Hop.out hkn (oneS_3 Hga.out hm4 Hgb.out hE3) hE3)
            have He := Lib.hid hE3
            clear hE3
            go_wp2_with fail
            exact bodyPost_ret (v := .agg #[.slice none 0 0, .int .i64 E3]) (by simp [results, Try.results76, go_sem, (HS6.out.ends (.slice none 0 0) E3).2]) rfl (ropen_no Ho.out He.out (HS6.out.ends (.slice none 0 0) E3).1)
        · have hq : (E2 == 0) = false := by rw [beq_eq_false_iff_ne]; exact hE2
          have Ho := Lib.hid (show (openS l).1 = E2 from NoText Hop.out hkn (oneS_1 Hga.out hE2) hE2)
          have He := Lib.hid hE2
          clear hE2
          go_wp2_with fail
          exact bodyPost_ret (v := .agg #[.slice none 0 0, .int .i64 E2]) (by simp [results, Try.results76, go_sem, (HS4.out.ends (.slice none 0 0) E2).2]) rfl (ropen_no Ho.out He.out (HS4.out.ends (.slice none 0 0) E2).1)
  · have hq : (E == 0) = false := by rw [beq_eq_false_iff_ne]; exact hE
    have Ho := Lib.hid (show (openS l).1 = E by unfold openS; rw [show getNum l = (V, N, E) from Hg.out, if_pos hE])
    have He := Lib.hid hE
    clear hE
    go_wp2_with fail
    refine bodyPost_ret (v := .agg #[.slice none 0 0, .int .i64 E]) (by simp [results, Try.results76, go_sem, (HS.out.ends (.slice none 0 0) E).2]) rfl (ropen_no Ho.out He.out (HS.out.ends (.slice none 0 0) E).1)
end Go.Proofs.Ytegpoghgddjmaaa
