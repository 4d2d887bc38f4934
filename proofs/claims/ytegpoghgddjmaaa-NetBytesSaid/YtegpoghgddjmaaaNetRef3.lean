/- The walk of the document's Read of a message. -/
import Derived.Test.YtegpoghgddjmaaaNetRead
import Derived.Test.YtegpoghgddjmaaaNetPlain
namespace Go.Proofs.Ytegpoghgddjmaaa
open Go.RowKit
set_option maxRecDepth 100000

/-- The result's cells at the first new block, and the bytes. -/
structure RQ (w W : World) (A : Option Addr) (l : List UInt8) : Prop where
  q : MC W w.heap.size false 0 (.slice none 0 0)
  b : Below w.heap.size w W
  lt : w.heap.size < W.heap.size
  by_ : Bytes W W.heap.size A l
theorem RQ.new_ {w W W' : World} {A : Option Addr} {l : List UInt8} (k : RQ w W A l) (hb : Below W.heap.size W W') : RQ w W' A l :=
  ⟨k.q.keep (hb.block _ k.lt), k.b.trans (hb.mono (Nat.le_of_lt k.lt)), Nat.lt_of_lt_of_le k.lt hb.size, (k.by_.below hb).more hb.size⟩
/-- The cells of what the document's GetNum gave. -/
structure GC (W : World) (g : Nat) (V N : Nat) (E : Int) : Prop where
  g0 : W.cell? ⟨g, 0, none⟩ = some (.int .u64 V)
  g1 : W.cell? ⟨g, 1, none⟩ = some (.int .i64 N)
  g2 : W.cell? ⟨g, 2, none⟩ = some (.int .i64 E)
theorem GC.made (W : World) (V N : Nat) (E : Int) (t : TypeId) : GC (W.alloc (.cells #[.int .u64 (V : Nat), .int .i64 (N : Nat), .int .i64 E] t)) W.heap.size V N E :=
  ⟨cell_of_row _ _ _ _ _ _ (heap_alloc_new W _), cell_of_row _ _ _ _ _ _ (heap_alloc_new W _), cell_of_row _ _ _ _ _ _ (heap_alloc_new W _)⟩
theorem GC.keep {W W' : World} {g V N : Nat} {E : Int} (k : GC W g V N E) (hb : W'.heap[g]? = W.heap[g]?) : GC W' g V N E :=
  ⟨(World.cell?_of_block hb).trans k.g0, (World.cell?_of_block hb).trans k.g1, (World.cell?_of_block hb).trans k.g2⟩
theorem Bytes.part_ {w : World} {B b off : Nat} {l : List UInt8} (h : Bytes w B (some ⟨b, off, none⟩) l) (k : Nat) : Bytes w B (some ⟨b, off + k, none⟩) (l.drop k) := fun hp => by
  have hl : 0 < l.length := by rw [List.length_drop] at hp; omega
  obtain ⟨b', off', e, hb, hc⟩ := h hl
  injection e with e
  injection e with e1 e2
  subst e1 e2
  refine ⟨_, _, rfl, hb, fun j y hy => ?_⟩
  rw [List.getElem?_drop] at hy
  rw [Nat.add_assoc]
  exact hc _ _ hy
set_option maxHeartbeats 4000000 in
theorem rread_any (A : Option Addr) (n c : Nat) (l : List UInt8) (w : World) (hA : Bytes w w.heap.size A l) (hn : l.length = n) (hl : n ≤ 140737488355328) (hcap : A = none → c = 0) (hnc : n ≤ c) :
    Calls Try.prog 61 #[.slice A n c] w (NReadPost l w) := by
  go_enter Try.func61, Try.ntmps61
  have hb0 := na (nr w) (.cells #[.bool false, .int .i64 0, .slice none 0 0] 54)
  have H0 : Hid (RQ w (w.alloc (.cells #[.bool false, .int .i64 0, .slice none 0 0] 54)) A l) := ⟨MC.made _ _ _ _ _, hb0, by simp, (hA.below hb0).more hb0.size⟩
  have hA0 := Lib.hid hA
  clear hb0 hA
  go_wp2_with fail
  generalize w.alloc (.cells #[.bool false, .int .i64 0, .slice none 0 0] 54) = W0 at *
  refine (rgetnum_any A n c l 0 W0 H0.out.by_ hn hl (by decide)).mono ?_
  rintro e w1 ⟨rfl, hb1⟩
  rw [List.drop_zero]
  have H1 := Lib.hid (H0.out.new_ hb1)
  clear H0 hb1
  obtain ⟨⟨V, N, E⟩, hg⟩ : ∃ r, getNum l = r := ⟨_, rfl⟩
  rw [hg]
  simp only
  have hgc := GC.made w1 V N E 47
  have H2 := Lib.hid (H1.out.new_ (na (nr w1) (.cells #[.int .u64 (V : Nat), .int .i64 (N : Nat), .int .i64 E] 47)))
  have hgs : Hid (w1.heap.size < (w1.alloc (.cells #[.int .u64 (V : Nat), .int .i64 (N : Nat), .int .i64 E] 47)).heap.size) := show _ < _ by simp
  by_cases hE : E = 0
  · subst hE
    obtain ⟨g0, g1, g2⟩ := id hgc
    rcases Nat.lt_or_ge 1 V with hV | hV
    · as_aux_lemma =>
        have hVi : (1 : Int) < (V : Int) := by omega
        obtain ⟨z0, z1, z2⟩ := H2.out.q.put3 false 0 (.slice none 0 0)
        obtain ⟨q0, q1, q2, f0, f1, f2⟩ := H2.out.q
        go_wp2_with fail
        refine bodyPost_ret (v := .tuple #[MV false 0 none 0 0, .int .i64 4]) (by simp [results, Try.results61, go_sem, z0, z1, z2]) rfl ⟨((H2.out.b.setCell (Nat.le_refl _) _).setCell (Nat.le_refl _) _).setCell (Nat.le_refl _) _, .inl ⟨4, readS_large hg hV, by first | decide | assumption, rfl⟩⟩
    · have hn1 : 1 ≤ n := by
        obtain ⟨_, hl1⟩ := getNum_small hg hV
        have := congrArg List.length hl1
        rw [List.length_cons, List.length_drop] at this
        omega
      have hVi : (V : Int) ≤ 1 := by omega
      go_wp2_with fail
      generalize w1.alloc (.cells #[.int .u64 (V : Nat), .int .i64 (N : Nat), .int .i64 0] 47) = W1 at *
      generalize w1.heap.size = p at *
      refine (rgetnum_any A n c l 1 W1 H2.out.by_ hn hl (by decide)).mono ?_
      rintro e w2 ⟨rfl, hb2⟩
      have hgc2 := hgc.keep (hb2.block p hgs.out)
      have H3 := Lib.hid (H2.out.new_ hb2)
      have hgs3 : Hid (p < w2.heap.size) := Nat.lt_of_lt_of_le hgs.out hb2.size
      clear H2 hb2 hgc g0 g1 g2 hgs
      obtain ⟨⟨V2, N2, E2⟩, h2⟩ : ∃ r, getNum (l.drop 1) = r := ⟨_, rfl⟩
      rw [h2]
      simp only
      have hV2 : V2 < 18446744073709551616 := by have := numS_lt l 1 0; rw [numS_ok h2] at this; exact this
      have hgd := GC.made w2 V2 N2 E2 47
      have hgc := hgc2.keep ((na (nr w2) (.cells #[.int .u64 (V2 : Nat), .int .i64 (N2 : Nat), .int .i64 E2] 47)).block p hgs3.out)
      have H4 := Lib.hid (H3.out.new_ (na (nr w2) (.cells #[.int .u64 (V2 : Nat), .int .i64 (N2 : Nat), .int .i64 E2] 47)))
      obtain ⟨g0, g1, g2⟩ := hgc
      obtain ⟨k0, k1, k2⟩ := hgd
      by_cases hE2 : E2 = 0
      · subst hE2
        obtain ⟨hn2, _, _⟩ := getNum_num h2
        rw [List.length_drop] at hn2
        have hlen : 1 + N2 ≤ n := by omega
        rcases (show V = 1 ∨ V = 0 by omega) with rfl | rfl
        · rcases Nat.lt_or_ge 4503599627370497 V2 with hv | hv
          · as_aux_lemma =>
              have hvi : (4503599627370497 : Int) < (V2 : Int) := by omega
              obtain ⟨z0, z1, z2⟩ := H4.out.q.put3 false 0 (.slice none 0 0)
              obtain ⟨q0, q1, q2, f0, f1, f2⟩ := H4.out.q
              go_wp2_with fail
              refine bodyPost_ret (v := .tuple #[MV false 0 none 0 0, .int .i64 4]) (by simp [results, Try.results61, go_sem, z0, z1, z2]) rfl ⟨((H4.out.b.setCell (Nat.le_refl _) _).setCell (Nat.le_refl _) _).setCell (Nat.le_refl _) _, .inl ⟨4, one_large hg h2 hv, by first | decide | assumption, rfl⟩⟩
          · have hvi : (V2 : Int) ≤ 4503599627370497 := by omega
            by_cases hm : 1 + N2 < l.length
            · as_aux_lemma =>
                have hmi : (1 : Int) + (N2 : Int) < (n : Int) := by omega
                obtain ⟨z0, z1, z2⟩ := H4.out.q.put3 false 0 (.slice none 0 0)
                obtain ⟨q0, q1, q2, f0, f1, f2⟩ := H4.out.q
                go_wp2_with fail
                refine bodyPost_ret (v := .tuple #[MV false 0 none 0 0, .int .i64 3]) (by simp [results, Try.results61, go_sem, z0, z1, z2]) rfl ⟨((H4.out.b.setCell (Nat.le_refl _) _).setCell (Nat.le_refl _) _).setCell (Nat.le_refl _) _, .inl ⟨3, one_more hg h2 hv hm, by first | decide | assumption, rfl⟩⟩
            · as_aux_lemma =>
                have hmi : (n : Int) ≤ (1 : Int) + (N2 : Int) := by omega
                obtain ⟨q0, q1, q2, f0, f1, f2⟩ := H4.out.q
                obtain ⟨z0, z1, z2⟩ := H4.out.q.put3 true (V2 : Nat) (.slice none 0 0)
                go_wp2_with fail
                exact bodyPost_ret (v := .tuple #[MV true (V2 : Nat) none 0 0, .int .i64 0]) (by simp [results, Try.results61, go_sem, z0, z1, z2]) rfl ⟨((H4.out.b.setCell (Nat.le_refl _) _).setCell (Nat.le_refl _) _).setCell (Nat.le_refl _) _, .inr ⟨true, V2, [], none, 0, one_fine hg h2 hv hm, rfl, Bytes.nil_ _, fun _ => rfl⟩⟩
        · rcases Nat.lt_or_ge 65536 V2 with hv | hv
          · as_aux_lemma =>
              have hvi : (65536 : Int) < (V2 : Int) := by omega
              obtain ⟨z0, z1, z2⟩ := H4.out.q.put3 false 0 (.slice none 0 0)
              obtain ⟨q0, q1, q2, f0, f1, f2⟩ := H4.out.q
              go_wp2_with fail
              refine bodyPost_ret (v := .tuple #[MV false 0 none 0 0, .int .i64 4]) (by simp [results, Try.results61, go_sem, z0, z1, z2]) rfl ⟨((H4.out.b.setCell (Nat.le_refl _) _).setCell (Nat.le_refl _) _).setCell (Nat.le_refl _) _, .inl ⟨4, zero_large hg h2 hv, by first | decide | assumption, rfl⟩⟩
          · have hvi : (V2 : Int) ≤ 65536 := by omega
            rcases Nat.lt_trichotomy V2 (l.length - (1 + N2)) with hs | hs | hs
            · as_aux_lemma =>
                have hsi : (V2 : Int) < (n : Int) - ((1 : Int) + (N2 : Int)) := by omega
                obtain ⟨z0, z1, z2⟩ := H4.out.q.put3 false 0 (.slice none 0 0)
                obtain ⟨q0, q1, q2, f0, f1, f2⟩ := H4.out.q
                go_wp2_with fail
                refine bodyPost_ret (v := .tuple #[MV false 0 none 0 0, .int .i64 3]) (by simp [results, Try.results61, go_sem, z0, z1, z2]) rfl ⟨((H4.out.b.setCell (Nat.le_refl _) _).setCell (Nat.le_refl _) _).setCell (Nat.le_refl _) _, .inl ⟨3, zero_more hg h2 hv hs, by first | decide | assumption, rfl⟩⟩
            · as_aux_lemma =>
                have hsi : (n : Int) - ((1 : Int) + (N2 : Int)) = (V2 : Int) := by omega
                have Hs := Lib.hid hs
                clear hs
                obtain ⟨q0, q1, q2, f0, f1, f2⟩ := H4.out.q
                have hAl : ∃ b off, A = some ⟨b, off, none⟩ := by
                  obtain ⟨b, off, e, _⟩ := H4.out.by_ (by omega)
                  exact ⟨b, off, e⟩
                obtain ⟨b, off, rfl⟩ := hAl
                have hdl : Hid ((l.drop (1 + N2)).length = n - (1 + N2)) := show _ = _ by rw [List.length_drop, hn]
                have hby : Hid (Bytes (w2.alloc (.cells #[.int .u64 (V2 : Nat), .int .i64 (N2 : Nat), .int .i64 0] 47)) w.heap.size (some ⟨b, off + (1 + N2), none⟩) (l.drop (1 + N2))) := Bytes.part_ (hA0.out.below H4.out.b) _
                have hnc' := Lib.hid hnc
                clear hnc
                by_cases hc : c = 1 + N2
                · subst hc
                  obtain ⟨z0, z1, z2⟩ := H4.out.q.put3 false 0 (.slice (some ⟨b, off, none⟩) (n - (1 + N2)) 0)
                  go_wp2_with fail
                  have hz : (l.drop (1 + N2)).length = 0 := by have := hnc'.out; have := hdl.out; omega
                  refine bodyPost_ret (v := .tuple #[MV false 0 (some ⟨b, off, none⟩) (n - (1 + N2)) 0, .int .i64 0]) (by simp [results, Try.results61, go_sem, z0, z1, z2]) rfl ⟨((H4.out.b.setCell (Nat.le_refl _) _).setCell (Nat.le_refl _) _).setCell (Nat.le_refl _) _, .inr ⟨false, 0, l.drop (1 + N2), _, _, zero_fine hg h2 hv Hs.out, by rw [hdl.out]; rfl, by rw [List.length_eq_zero_iff.1 hz]; exact Bytes.nil_ _, fun h => by cases h⟩⟩
                · obtain ⟨z0, z1, z2⟩ := H4.out.q.put3 false 0 (.slice (some ⟨b, off + (1 + N2), none⟩) (n - (1 + N2)) (c - (1 + N2)))
                  go_wp2_with fail
                  refine bodyPost_ret (v := .tuple #[MV false 0 (some ⟨b, off + (1 + N2), none⟩) (n - (1 + N2)) (c - (1 + N2)), .int .i64 0]) (by simp [results, Try.results61, go_sem, z0, z1, z2]) rfl ⟨((H4.out.b.setCell (Nat.le_refl _) _).setCell (Nat.le_refl _) _).setCell (Nat.le_refl _) _, .inr ⟨false, 0, l.drop (1 + N2), _, _, zero_fine hg h2 hv Hs.out, by rw [hdl.out]; rfl, ?_, fun h => by cases h⟩⟩
                  have hne : 0 < (l.drop (1 + N2)).length → ∀ b' off', some (⟨b, off + (1 + N2), none⟩ : Addr) = some ⟨b', off', none⟩ → b' ≠ w.heap.size := fun hp b' off' e => by
                    obtain ⟨b2, off2, e2, h3, _⟩ := hby.out hp
                    rw [e] at e2
                    injection e2 with e2
                    injection e2 with e2 _
                    omega
                  exact (((hby.out.put hne).put hne).put hne).more (by have := H4.out.lt; simp [World.setCell] at this ⊢; omega)
            · as_aux_lemma =>
                have hsi : (n : Int) - ((1 : Int) + (N2 : Int)) < (V2 : Int) := by omega
                obtain ⟨z0, z1, z2⟩ := H4.out.q.put3 false 0 (.slice none 0 0)
                obtain ⟨q0, q1, q2, f0, f1, f2⟩ := H4.out.q
                go_wp2_with fail
                refine bodyPost_ret (v := .tuple #[MV false 0 none 0 0, .int .i64 2]) (by simp [results, Try.results61, go_sem, z0, z1, z2]) rfl ⟨((H4.out.b.setCell (Nat.le_refl _) _).setCell (Nat.le_refl _) _).setCell (Nat.le_refl _) _, .inl ⟨2, zero_short hg h2 hv hs, by first | decide | assumption, rfl⟩⟩
      · have hE2' : (E2 == 0) = false := by rw [beq_eq_false_iff_ne]; exact hE2
        have hrr : (readS l).2.2.2 = E2 := by
          rcases (show V = 1 ∨ V = 0 by omega) with rfl | rfl
          · exact one_err hg h2 hE2
          · exact zero_err hg h2 hE2
        have hne : (w2.heap.size : Nat) ≠ w.heap.size := by have := H3.out.lt; omega
        go_wp2_with fail
        generalize w2.alloc (.cells #[.int .u64 (V2 : Nat), .int .i64 (N2 : Nat), .int .i64 E2] 47) = WW at *
        generalize w2.heap.size = pp at *
        have k2s : (((WW.setCell ⟨w.heap.size, 0, none⟩ (.bool false)).setCell ⟨w.heap.size, 1, none⟩ (.int .i64 0)).setCell ⟨w.heap.size, 2, none⟩ (.slice none 0 0)).cell? ⟨pp, 2, none⟩ = some (.int .i64 E2) :=
          (World.cell?_of_block ((Below.heap_setCell _ _ _ _ (show pp ≠ w.heap.size from hne)).trans ((Below.heap_setCell _ _ _ _ (show pp ≠ w.heap.size from hne)).trans (Below.heap_setCell _ _ _ _ (show pp ≠ w.heap.size from hne))))).trans k2
        obtain ⟨z0, z1, z2⟩ := H4.out.q.put3 false 0 (.slice none 0 0)
        obtain ⟨q0, q1, q2, f0, f1, f2⟩ := H4.out.q
        go_region
        all_goals go_wp2_with fail
        refine bodyPost_ret (v := .tuple #[MV false 0 none 0 0, .int .i64 E2]) (by simp [results, Try.results61, go_sem, z0, z1, z2]) rfl ⟨nd (((H4.out.b.setCell (Nat.le_refl _) _).setCell (Nat.le_refl _) _).setCell (Nat.le_refl _) _), .inl ⟨E2, hrr, by assumption, rfl⟩⟩
  · have hE' : (E == 0) = false := by rw [beq_eq_false_iff_ne]; exact hE
    obtain ⟨g0, g1, g2⟩ := hgc
    have hne : (w1.heap.size : Nat) ≠ w.heap.size := by have := H1.out.lt; omega
    go_wp2_with fail
    generalize w1.alloc (.cells #[.int .u64 (V : Nat), .int .i64 (N : Nat), .int .i64 E] 47) = WW at *
    generalize w1.heap.size = pp at *
    have k2s : (((WW.setCell ⟨w.heap.size, 0, none⟩ (.bool false)).setCell ⟨w.heap.size, 1, none⟩ (.int .i64 0)).setCell ⟨w.heap.size, 2, none⟩ (.slice none 0 0)).cell? ⟨pp, 2, none⟩ = some (.int .i64 E) :=
      (World.cell?_of_block ((Below.heap_setCell _ _ _ _ (show pp ≠ w.heap.size from hne)).trans ((Below.heap_setCell _ _ _ _ (show pp ≠ w.heap.size from hne)).trans (Below.heap_setCell _ _ _ _ (show pp ≠ w.heap.size from hne))))).trans g2
    obtain ⟨z0, z1, z2⟩ := H2.out.q.put3 false 0 (.slice none 0 0)
    obtain ⟨q0, q1, q2, f0, f1, f2⟩ := H2.out.q
    go_region
    all_goals go_wp2_with fail
    refine bodyPost_ret (v := .tuple #[MV false 0 none 0 0, .int .i64 E]) (by simp [results, Try.results61, go_sem, z0, z1, z2]) rfl ⟨nd (((H2.out.b.setCell (Nat.le_refl _) _).setCell (Nat.le_refl _) _).setCell (Nat.le_refl _) _), .inl ⟨E, readS_err hg hE, by assumption, rfl⟩⟩
end Go.Proofs.Ytegpoghgddjmaaa
