/- The walk of net.Read. -/
import Derived.Test.YtegpoghgddjmaaaNetTake
import Derived.Test.YtegpoghgddjmaaaNetBytes
import Derived.Test.YtegpoghgddjmaaaReadsSt
namespace Go.Proofs.Ytegpoghgddjmaaa
open Go.RowKit
set_option maxRecDepth 100000

/-- What net.Read makes of bytes: what comes of Count, then of Count or Text, then of Done. -/
def doneS (l : List UInt8) (at_ : Nat) (e : Int) : Int := if e = 0 ∧ at_ < l.length then 3 else e
def readS (l : List UInt8) : Bool × Nat × List UInt8 × Int :=
  let c := countS l 0 0 1
  if c.1 = 1 then (true, (countS l c.2.1 c.2.2 4503599627370497).1, [], doneS l (countS l c.2.1 c.2.2 4503599627370497).2.1 (countS l c.2.1 c.2.2 4503599627370497).2.2)
  else (false, 0, (textS l c.2.1 c.2.2 65536).1, doneS l (textS l c.2.1 c.2.2 65536).2.1 (textS l c.2.1 c.2.2 65536).2.2)
def NReadPost (l : List UInt8) (w : World) (e : Ending) (w' : World) : Prop :=
  Below w.heap.size w w' ∧ ((∃ E, (readS l).2.2.2 = E ∧ E ≠ 0 ∧ e = .returned (.tuple #[MV false 0 none 0 0, .int .i64 E])) ∨ (∃ a h d A' c', readS l = (a, h, d, 0) ∧ e = .returned (.tuple #[MV a (h : Nat) A' d.length c', .int .i64 0]) ∧ Bytes w' w'.heap.size A' d ∧ (A' = none → c' = 0)))
theorem MC.set0 {W : World} {p : Nat} {a : Bool} {h : Int} {v : Value} (k : MC W p a h v) (a' : Bool) : MC (W.setCell ⟨p, 0, none⟩ (.bool a')) p a' h v :=
  ⟨World.cell?_setCell_same _ _ _ k.c0, (World.cell?_setCell_other _ _ _ _ (by simp)).trans k.c1, (World.cell?_setCell_other _ _ _ _ (by simp)).trans k.c2, (World.frozen?_setCell _ _ _ _).trans k.f0, (World.frozen?_setCell _ _ _ _).trans k.f1, (World.frozen?_setCell _ _ _ _).trans k.f2⟩
theorem MC.set1 {W : World} {p : Nat} {a : Bool} {h : Int} {v : Value} (k : MC W p a h v) (h' : Int) : MC (W.setCell ⟨p, 1, none⟩ (.int .i64 h')) p a h' v :=
  ⟨(World.cell?_setCell_other _ _ _ _ (by simp)).trans k.c0, World.cell?_setCell_same _ _ _ k.c1, (World.cell?_setCell_other _ _ _ _ (by simp)).trans k.c2, (World.frozen?_setCell _ _ _ _).trans k.f0, (World.frozen?_setCell _ _ _ _).trans k.f1, (World.frozen?_setCell _ _ _ _).trans k.f2⟩
theorem MC.set2 {W : World} {p : Nat} {a : Bool} {h : Int} {v : Value} (k : MC W p a h v) (v' : Value) : MC (W.setCell ⟨p, 2, none⟩ v') p a h v' :=
  ⟨(World.cell?_setCell_other _ _ _ _ (by simp)).trans k.c0, (World.cell?_setCell_other _ _ _ _ (by simp)).trans k.c1, World.cell?_setCell_same _ _ _ k.c2, (World.frozen?_setCell _ _ _ _).trans k.f0, (World.frozen?_setCell _ _ _ _).trans k.f1, (World.frozen?_setCell _ _ _ _).trans k.f2⟩
/-- The result's cells, the reader at g and the message at p. -/
structure RD (w W : World) (g p : Nat) (A : Option Addr) (c : Nat) (l : List UInt8) (at_ : Nat) (e : Int) (a : Bool) (h : Int) (v : Value) : Prop where
  R : OwnR W g A c l at_ e
  m : MC W p a h v
  q : MC W w.heap.size false 0 (.slice none 0 0)
  b : Below w.heap.size w W
  lt : w.heap.size < g
  gp : g < p
  ps : p < W.heap.size
theorem RD.read {w W W' : World} {g p : Nat} {A : Option Addr} {c : Nat} {l : List UInt8} {at_ at' : Nat} {e e' : Int} {a : Bool} {h : Int} {v : Value} (k : RD w W g p A c l at_ e a h v) (hR : OwnR W' g A c l at' e') (hT : Turn g W W') : RD w W' g p A c l at' e' a h v := by
  have h1 := k.R.lt
  have h2 := k.lt
  have h3 := k.gp
  exact ⟨hR, k.m.keep (hT.block _ k.ps (by omega)), k.q.keep (hT.block _ (by omega) (by omega)), k.b.trans ⟨hT.os, hT.tape, hT.output, hT.size, fun i hi => hT.block i (by omega) (by omega)⟩, k.lt, k.gp, Nat.lt_of_lt_of_le k.ps hT.size⟩
theorem RD.new_ {w W W' : World} {g p : Nat} {A : Option Addr} {c : Nat} {l : List UInt8} {at_ : Nat} {e : Int} {a : Bool} {h : Int} {v : Value} (k : RD w W g p A c l at_ e a h v) (hb : Below W.heap.size W W') : RD w W' g p A c l at_ e a h v :=
  k.read (k.R.new_ hb) (Turn.of_below hb)
theorem RD.put {w W : World} {g p : Nat} {A : Option Addr} {c : Nat} {l : List UInt8} {at_ : Nat} {e : Int} {a a' : Bool} {h h' : Int} {v v' : Value} (k : RD w W g p A c l at_ e a h v) (j : Nat) (u : Value) (hm : MC (W.setCell ⟨p, j, none⟩ u) p a' h' v') : RD w (W.setCell ⟨p, j, none⟩ u) g p A c l at_ e a' h' v' := by
  have h2 := k.lt
  have h3 := k.gp
  exact ⟨k.R.below1 ((Below.refl (g + 1) W).setCell (show g + 1 ≤ p by omega) _), hm, k.q.keep (Below.heap_setCell _ _ _ _ (show w.heap.size ≠ p by omega)), k.b.setCell (show w.heap.size ≤ p by omega) _, k.lt, k.gp, by simpa [World.setCell] using k.ps⟩
set_option maxHeartbeats 4000000 in
theorem nread_any (A : Option Addr) (n c : Nat) (l : List UInt8) (w : World) (hA : Bytes w w.heap.size A l) (hn : l.length = n) (hl : n ≤ 140737488355328) (hcap : A = none → c = 0) :
    Calls Try.prog 60 #[.slice A n c] w (NReadPost l w) := by
  have hl' : l.length ≤ 140737488355328 := by omega
  go_enter Try.func60, Try.ntmps60
  go_wp2_with fail
  have hb0 := na (nr w) (.cells #[.bool false, .int .i64 0, .slice none 0 0] 54)
  refine (newReader_far A n c l _ ((hA.below hb0).more hb0.size) hn hl hcap).mono ?_
  rintro e w1 ⟨g, A1, c1, rfl, hg, hR, hb1, hfar⟩
  have hb2 := na (nr w1) (.cells #[.bool false, .int .i64 0, .slice none 0 0] 54)
  have hgs := hR.lt
  have H1 : Hid (RD w (w1.alloc (.cells #[.bool false, .int .i64 0, .slice none 0 0] 54)) g w1.heap.size A1 c1 l 0 0 false 0 (.slice none 0 0)) := ⟨hR.new_ hb2, MC.made _ _ _ _ _, ((MC.made w false 0 (.slice none 0 0) 54).keep (hb1.block _ (by simp))).keep (hb2.block _ (by simp at hg; omega)), nt (nt hb0 hb1) hb2, by simp at hg; omega, hgs, by simp⟩
  clear hb0 hg hR hb1 hfar hA hb2 hgs
  go_wp2_with fail
  generalize w1.alloc (.cells #[.bool false, .int .i64 0, .slice none 0 0] 54) = W1 at *
  generalize w1.heap.size = p at *
  refine (rcount_any g A1 c1 l 0 0 1 W1 H1.out.R hl' (by decide) (by decide)).mono ?_
  rintro e w2 ⟨rfl, hR2, hO2⟩
  have H2 := Lib.hid (H1.out.read hR2 hO2.turn)
  clear hR2 hO2 H1
  have Hr := Lib.hid (show readS l = if (countS l 0 0 1).1 = 1 then (true, (countS l (countS l 0 0 1).2.1 (countS l 0 0 1).2.2 4503599627370497).1, [], doneS l (countS l (countS l 0 0 1).2.1 (countS l 0 0 1).2.2 4503599627370497).2.1 (countS l (countS l 0 0 1).2.1 (countS l 0 0 1).2.2 4503599627370497).2.2) else (false, 0, (textS l (countS l 0 0 1).2.1 (countS l 0 0 1).2.2 65536).1, doneS l (textS l (countS l 0 0 1).2.1 (countS l 0 0 1).2.2 65536).2.1 (textS l (countS l 0 0 1).2.1 (countS l 0 0 1).2.2 65536).2.2) from rfl)
  obtain ⟨⟨v1, a1, e1⟩, hc1⟩ : ∃ r, countS l 0 0 1 = r := ⟨_, rfl⟩
  rw [hc1] at H2 Hr ⊢
  clear hc1
  simp only at H2 Hr ⊢
  by_cases hv : v1 = 1
  · subst hv
    rw [if_pos rfl] at Hr
    go_wp2_with fail
    refine (rcount_any g A1 c1 l a1 e1 4503599627370497 w2 H2.out.R hl' (by decide) (by decide)).mono ?_
    rintro e w3 ⟨rfl, hR3, hO3⟩
    have H3 := Lib.hid (H2.out.read hR3 hO3.turn)
    have hle := countS_le l a1 e1 4503599627370497 (by decide)
    clear hR3 hO3 H2
    obtain ⟨⟨v2, a2, e2⟩, hc2⟩ : ∃ r, countS l a1 e1 4503599627370497 = r := ⟨_, rfl⟩
    rw [hc2] at H3 Hr hle ⊢
    clear hc2
    simp only at H3 Hr hle ⊢
    obtain ⟨x0, x1, x2, y0, y1, y2⟩ := H3.out.m
    obtain ⟨_, t1, _, _, s1, _⟩ := H3.out.m.set0 true
    have H4 := Lib.hid ((H3.out.put 0 _ (H3.out.m.set0 true)).put 1 _ ((H3.out.m.set0 true).set1 v2))
    clear H3
    go_wp2_with fail
    generalize (w3.setCell ⟨p, 0, none⟩ (.bool true)).setCell ⟨p, 1, none⟩ (.int .i64 v2) = W4 at *
    refine (done_any g A1 c1 l a2 e2 W4 H4.out.R hl').mono ?_
    rintro e w5 ⟨⟨k, hk⟩, rfl⟩
    have H5 : Hid (RD w w5 g p A1 c1 l a2 e2 true (v2 : Nat) (.slice none 0 0)) := by rw [hk]; exact H4.out.new_ (nD (nr _) k)
    clear hk
    have Hr := Lib.hid (show readS l = (true, _, [], if e2 = 0 ∧ a2 < l.length then 3 else e2) from Hr.out)
    obtain ⟨E, hE⟩ : ∃ E : Int, (if e2 = 0 ∧ a2 < l.length then 3 else e2) = E := ⟨_, rfl⟩
    rw [hE] at Hr ⊢
    clear hE
    obtain ⟨p0, p1, p2, _, _, _⟩ := H5.out.m
    obtain ⟨q0, q1, q2, f0, f1, f2⟩ := H5.out.q
    by_cases hE : E = 0
    · subst hE
      obtain ⟨z0, z1, z2⟩ := H5.out.q.put3 true (v2 : Nat) (.slice none 0 0)
      go_wp2_with fail
      refine bodyPost_ret (v := .tuple #[MV true (v2 : Nat) none 0 0, .int .i64 0]) (by simp [results, Try.results60, go_sem, z0, z1, z2]) rfl ⟨?_, .inr ⟨true, v2, [], none, 0, Hr.out, rfl, Bytes.nil_ _, fun _ => rfl⟩⟩
      exact ((H5.out.b.setCell (Nat.le_refl _) _).setCell (Nat.le_refl _) _).setCell (Nat.le_refl _) _
    · have hE' : (E == 0) = false := by rw [beq_eq_false_iff_ne]; exact hE
      obtain ⟨z0, z1, z2⟩ := H5.out.q.put3 false 0 (.slice none 0 0)
      go_wp2_with fail
      refine bodyPost_ret (v := .tuple #[MV false 0 none 0 0, .int .i64 E]) (by simp [results, Try.results60, go_sem, z0, z1, z2]) rfl ⟨?_, .inl ⟨E, ?_, hE, rfl⟩⟩
      · exact ((H5.out.b.setCell (Nat.le_refl _) _).setCell (Nat.le_refl _) _).setCell (Nat.le_refl _) _
      · rw [Hr.out]
  · have hv' : ((v1 : Int) == 1) = false := by rw [beq_eq_false_iff_ne]; omega
    rw [if_neg hv] at Hr
    go_wp2_with fail
    refine (rtext_any g A1 c1 l a1 e1 65536 w2 H2.out.R hl' (by decide) (by decide)).mono ?_
    rintro e w3 ⟨rfl, hR3, hO3⟩
    have H3 := Lib.hid (H2.out.read hR3 hO3)
    clear hR3 hO3 H2
    obtain ⟨⟨d, a2, e2⟩, hc2⟩ : ∃ r, textS l a1 e1 65536 = r := ⟨_, rfl⟩
    rw [hc2] at H3 Hr ⊢
    clear hc2
    simp only at H3 Hr ⊢
    have r1 := run_bytes w3 d
    have hb3 : Below w3.heap.size w3 (w3.alloc (rowS d (capS w3 d))) := na (nr w3) _
    have H3' := Lib.hid (H3.out.new_ hb3)
    have hlt : Hid (w.heap.size < w3.heap.size) := show _ < _ by
      have h1 := H3.out.lt
      have h2 := H3.out.gp
      have h3 := H3.out.ps
      omega
    have hby : Hid (Bytes ((w3.alloc (rowS d (capS w3 d))).setCell ⟨p, 2, none⟩ (.slice (some ⟨w3.heap.size, 0, none⟩) d.length (capS w3 d))).drew ((w3.alloc (rowS d (capS w3 d))).setCell ⟨p, 2, none⟩ (.slice (some ⟨w3.heap.size, 0, none⟩) d.length (capS w3 d))).drew.heap.size (some ⟨w3.heap.size, 0, none⟩) d) :=
      show Bytes ((w3.alloc (rowS d (capS w3 d))).setCell ⟨p, 2, none⟩ (.slice (some ⟨w3.heap.size, 0, none⟩) d.length (capS w3 d))) _ _ d from ((Bytes.newS w3 d (capS w3 d)).put (fun _ b off e => by
        injection e with e
        injection e with e _
        have := H3.out.ps
        omega)).more (by simp [World.setCell, World.drew])
    obtain ⟨x0, x1, x2, y0, y1, y2⟩ := H3'.out.m
    have H4 : Hid (RD w ((w3.alloc (rowS d (capS w3 d))).setCell ⟨p, 2, none⟩ (.slice (some ⟨w3.heap.size, 0, none⟩) d.length (capS w3 d))).drew g p A1 c1 l a2 e2 false 0 (.slice (some ⟨w3.heap.size, 0, none⟩) d.length (capS w3 d))) :=
      (H3'.out.put 2 _ (H3'.out.m.set2 (.slice (some ⟨w3.heap.size, 0, none⟩) d.length (capS w3 d)))).new_ (nd (nr _))
    clear H3 hb3
    go_wp2_with fail
    generalize ((w3.alloc (rowS d (capS w3 d))).setCell ⟨p, 2, none⟩ (.slice (some ⟨w3.heap.size, 0, none⟩) d.length (capS w3 d))).drew = W4 at *
    refine (done_any g A1 c1 l a2 e2 W4 H4.out.R hl').mono ?_
    rintro e w5 ⟨⟨k, hk⟩, rfl⟩
    have hby5 : Hid (Bytes w5 w5.heap.size (some ⟨w3.heap.size, 0, none⟩) d) := by rw [hk]; exact (hby.out.below (nD (nr _) k)).more (nD (nr _) k).size
    have H5 : Hid (RD w w5 g p A1 c1 l a2 e2 false 0 (.slice (some ⟨w3.heap.size, 0, none⟩) d.length (capS w3 d))) := by rw [hk]; exact H4.out.new_ (nD (nr _) k)
    clear hk
    have Hr := Lib.hid (show readS l = (false, _, d, if e2 = 0 ∧ a2 < l.length then 3 else e2) from Hr.out)
    obtain ⟨E, hE⟩ : ∃ E : Int, (if e2 = 0 ∧ a2 < l.length then 3 else e2) = E := ⟨_, rfl⟩
    rw [hE] at Hr ⊢
    clear hE
    obtain ⟨p0, p1, p2, _, _, _⟩ := H5.out.m
    obtain ⟨q0, q1, q2, f0, f1, f2⟩ := H5.out.q
    by_cases hE : E = 0
    · subst hE
      obtain ⟨z0, z1, z2⟩ := H5.out.q.put3 false 0 (.slice (some ⟨w3.heap.size, 0, none⟩) d.length (capS w3 d))
      go_wp2_with fail
      refine bodyPost_ret (v := .tuple #[MV false 0 (some ⟨w3.heap.size, 0, none⟩) d.length (capS w3 d), .int .i64 0]) (by simp [results, Try.results60, go_sem, z0, z1, z2]) rfl ⟨?_, .inr ⟨false, 0, d, _, _, Hr.out, rfl, ?_, fun h => by cases h⟩⟩
      · exact ((H5.out.b.setCell (Nat.le_refl _) _).setCell (Nat.le_refl _) _).setCell (Nat.le_refl _) _
      · have hne : 0 < d.length → ∀ b off, some (⟨w3.heap.size, 0, none⟩ : Addr) = some ⟨b, off, none⟩ → b ≠ w.heap.size := fun _ b off e => by
          injection e with e
          injection e with e _
          have := hlt.out
          omega
        exact (((hby5.out.put hne).put hne).put hne).more (by simp [World.setCell])
    · have hE' : (E == 0) = false := by rw [beq_eq_false_iff_ne]; exact hE
      obtain ⟨z0, z1, z2⟩ := H5.out.q.put3 false 0 (.slice none 0 0)
      go_wp2_with fail
      refine bodyPost_ret (v := .tuple #[MV false 0 none 0 0, .int .i64 E]) (by simp [results, Try.results60, go_sem, z0, z1, z2]) rfl ⟨?_, .inl ⟨E, ?_, hE, rfl⟩⟩
      · exact ((H5.out.b.setCell (Nat.le_refl _) _).setCell (Nat.le_refl _) _).setCell (Nat.le_refl _) _
      · rw [Hr.out]
end Go.Proofs.Ytegpoghgddjmaaa
