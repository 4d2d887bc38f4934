/- The walks of pack.Reader: Int, Count, Raw, Text, Fix. -/
import Derived.Test.YtegpoghgddjmaaaAwake02
import Derived.Test.YtegpoghgddjmaaaWriter3
import Derived.Deep.RegionHeld3
namespace Go.Proofs.Ytegpoghgddjmaaa
open Go.RowKit
set_option maxRecDepth 100000

/-- What Num hands: the number, the place, the error. -/
def numS (l : List UInt8) (at_ : Nat) (e : Int) : Nat × Nat × Int := if e = 0 then ((getNum (l.drop at_)).1, at_ + (getNum (l.drop at_)).2.1, (getNum (l.drop at_)).2.2) else (0, at_, e)
theorem rnum_s (g : Nat) (A : Option Addr) (c : Nat) (l : List UInt8) (at_ : Nat) (e : Int) (w : World) (hR : OwnR w g A c l at_ e) (hl : l.length ≤ 140737488355328) :
    Calls Try.prog 32 #[.pointer (some ⟨g, 0, none⟩)] w fun e' w' => e' = .returned (.int .u64 ((numS l at_ e).1 : Nat)) ∧ OwnR w' g A c l (numS l at_ e).2.1 (numS l at_ e).2.2 ∧ Only g w w' := by
  refine (rnum_any g A c l at_ e w hR hl).mono ?_
  rintro e' w' ⟨h1, rfl, h3⟩
  unfold numS
  by_cases he : e = 0
  · subst he
    simp only [if_true] at h1 ⊢
    exact ⟨trivial, h1, h3⟩
  · simp only [if_neg he] at h1 ⊢
    exact ⟨trivial, h1, h3⟩
theorem numS_lt (l : List UInt8) (at_ : Nat) (e : Int) : (numS l at_ e).1 < 18446744073709551616 := by
  unfold numS
  split
  · obtain ⟨⟨v, n, k⟩, hg⟩ : ∃ r, getNum (l.drop at_) = r := ⟨_, rfl⟩
    rw [hg]
    by_cases h0 : k = 0
    · subst h0; exact (getNum_num hg).2.2
    · have : v = 0 := by
        unfold getNum at hg
        split at hg
        · simp only [Prod.mk.injEq] at hg; omega
        · split at hg
          · simp only [Prod.mk.injEq] at hg; omega
          · split at hg
            · simp only [Prod.mk.injEq] at hg; omega
            · simp only [Prod.mk.injEq] at hg; omega
      simp [this]
  · simp
theorem numS_err (l : List UInt8) (at_ : Nat) (e : Int) (h : (numS l at_ e).2.2 ≠ 0) : (numS l at_ e).1 = 0 ∧ (numS l at_ e).2.1 = at_ := by
  unfold numS at h ⊢
  split
  · next h0 =>
    rw [if_pos h0] at h
    obtain ⟨⟨v, n, k⟩, hg⟩ : ∃ r, getNum (l.drop at_) = r := ⟨_, rfl⟩
    rw [hg] at h ⊢
    simp only at h ⊢
    unfold getNum at hg
    split at hg
    · simp only [Prod.mk.injEq] at hg; omega
    · split at hg
      · simp only [Prod.mk.injEq] at hg; omega
      · split at hg
        · simp only [Prod.mk.injEq] at hg; omega
        · simp only [Prod.mk.injEq] at hg; omega
  · exact ⟨rfl, rfl⟩

theorem rint_any (g : Nat) (A : Option Addr) (c : Nat) (l : List UInt8) (at_ : Nat) (e : Int) (w : World) (hR : OwnR w g A c l at_ e) (hl : l.length ≤ 140737488355328) :
    Calls Try.prog 52 #[.pointer (some ⟨g, 0, none⟩)] w fun e' w' => e' = .returned (.int .i64 (zag ((numS l at_ e).1 : Nat))) ∧ OwnR w' g A c l (numS l at_ e).2.1 (numS l at_ e).2.2 ∧ Only g w w' := by
  have hv := numS_lt l at_ e
  go_enter Try.func52, Try.ntmps52
  go_wp2_with fail
  refine (rnum_s g A c l at_ e w hR hl).mono ?_
  rintro e' w1 ⟨rfl, h1, h2⟩
  have H := Lib.hid (And.intro h1 h2)
  clear h1 h2
  go_wp2_with fail
  refine (zag_any ((numS l at_ e).1 : Nat) w1 (by omega) (by omega)).mono ?_
  rintro e' w2 ⟨rfl, rfl⟩
  go_wp2_with fail
  go_ret
  exact ⟨rfl, H.out⟩

/-- What Count hands. -/
def countS (l : List UInt8) (at_ : Nat) (e most : Int) : Nat × Nat × Int :=
  if (numS l at_ e).2.2 = 0 ∧ (most < 0 ∨ most < ((numS l at_ e).1 : Nat)) then (0, at_, 4) else numS l at_ e
theorem countS_le (l : List UInt8) (at_ : Nat) (e most : Int) (hm : most ≤ 9223372036854775807) : (countS l at_ e most).1 ≤ 9223372036854775807 := by
  unfold countS
  split
  · simp
  · next h =>
    by_cases h0 : (numS l at_ e).2.2 = 0
    · omega
    · rw [(numS_err l at_ e h0).1]; simp
theorem rcount_any (g : Nat) (A : Option Addr) (c : Nat) (l : List UInt8) (at_ : Nat) (e most : Int) (w : World) (hR : OwnR w g A c l at_ e) (hl : l.length ≤ 140737488355328) (hm0 : -9223372036854775808 ≤ most) (hm : most ≤ 9223372036854775807) :
    Calls Try.prog 57 #[.pointer (some ⟨g, 0, none⟩), .int .i64 most] w fun e' w' => e' = .returned (.int .i64 ((countS l at_ e most).1 : Nat)) ∧ OwnR w' g A c l (countS l at_ e most).2.1 (countS l at_ e most).2.2 ∧ Only g w w' := by
  have hv := numS_lt l at_ e
  have Her := Lib.hid (numS_err l at_ e)
  have Hc := Lib.hid (show countS l at_ e most = if (numS l at_ e).2.2 = 0 ∧ (most < 0 ∨ most < ((numS l at_ e).1 : Nat)) then (0, at_, 4) else numS l at_ e from rfl)
  have hat := hR.at_le
  obtain ⟨c0, c1, c2, f1, f2, lt, hb, hcap, hle⟩ := id hR
  go_enter Try.func57, Try.ntmps57
  go_wp2_with fail
  refine (rnum_s g A c l at_ e w hR hl).mono ?_
  rintro e' w1 ⟨rfl, h1, h2⟩
  clear c0 c1 c2 f1 f2 lt hb hcap hR
  obtain ⟨⟨v, a1, k⟩, hs⟩ : ∃ r, numS l at_ e = r := ⟨_, rfl⟩
  rw [hs] at h1 hv Her Hc ⊢
  simp only at h1 hv ⊢
  clear hs
  have d1 := h1.c1
  have d2 := h1.c2
  have f1 := h1.f1
  by_cases hk : k = 0
  · subst hk
    by_cases hm1 : most < 0
    · rw [if_pos ⟨rfl, .inl hm1⟩] at Hc
      have H := Lib.hid (And.intro h1 h2)
      clear h1 h2
      go_wp2_with fail
      refine (fail_any g A c l at_ 0 4 _ (H.out.1.step _ _ rfl hle)).mono ?_
      rintro e' w3 ⟨rfl, hR3, hb1, hs1, hk1⟩
      have hO := (H.out.2.setCell 1 (.int .i64 at_)).trans ⟨hb1.os, hb1.tape, hb1.output, hs1, hk1⟩
      have H3 := Lib.hid (And.intro hR3 hO)
      clear hR3 hb1 hs1 hk1 hO
      go_wp2_with fail
      go_ret
      rw [Hc.out]
      exact ⟨rfl, H3.out⟩
    · by_cases hm2 : most < (v : Int)
      · rw [if_pos ⟨rfl, .inr hm2⟩] at Hc
        have H := Lib.hid (And.intro h1 h2)
        clear h1 h2
        go_wp2_with fail
        refine (fail_any g A c l at_ 0 4 _ (H.out.1.step _ _ rfl hle)).mono ?_
        rintro e' w3 ⟨rfl, hR3, hb1, hs1, hk1⟩
        have hO := (H.out.2.setCell 1 (.int .i64 at_)).trans ⟨hb1.os, hb1.tape, hb1.output, hs1, hk1⟩
        have H3 := Lib.hid (And.intro hR3 hO)
        clear hR3 hb1 hs1 hk1 hO
        go_wp2_with fail
        go_ret
        rw [Hc.out]
        exact ⟨rfl, H3.out⟩
      · rw [if_neg (by simp only [true_and]; omega)] at Hc
        have H := Lib.hid (And.intro h1 h2)
        clear h1 h2
        have hv2 : (v : Int) ≤ most := by omega
        have hm3 : (0 : Int) ≤ most := by omega
        go_wp2_with fail
        go_ret
        rw [Hc.out]
        exact ⟨rfl, H.out⟩
  · rw [if_neg (fun h => hk h.1)] at Hc
    obtain ⟨hv0, ha0⟩ := Her.out hk
    simp only at hv0 ha0
    subst hv0
    have hkb : (k == 0) = false := by rw [beq_eq_false_iff_ne]; exact hk
    have H := Lib.hid (And.intro h1 h2)
    clear h1 h2
    go_wp2_with fail
    go_ret
    rw [Hc.out]
    exact ⟨rfl, H.out⟩

/-- Nothing that was there turned but block g. -/
structure Turn (g : Nat) (w w' : World) : Prop where
  os : w'.os = w.os
  tape : w'.tape = w.tape
  output : w'.output = w.output
  size : w.heap.size ≤ w'.heap.size
  block : ∀ i, i < w.heap.size → i ≠ g → w'.heap[i]? = w.heap[i]?
theorem Only.turn {g : Nat} {w w' : World} (h : Only g w w') : Turn g w w' := ⟨h.os, h.tape, h.output, Nat.le_of_eq h.size.symm, fun i _ hg => h.block i hg⟩
theorem Turn.refl (g : Nat) (w : World) : Turn g w w := ⟨rfl, rfl, rfl, Nat.le_refl _, fun _ _ _ => rfl⟩
theorem Turn.trans {g : Nat} {a b c : World} (h : Turn g a b) (k : Turn g b c) : Turn g a c :=
  ⟨k.os.trans h.os, k.tape.trans h.tape, k.output.trans h.output, Nat.le_trans h.size k.size, fun i hi hg => (k.block i (Nat.lt_of_lt_of_le hi h.size) hg).trans (h.block i hi hg)⟩
theorem Turn.of_below {g : Nat} {w w' : World} (h : Below w.heap.size w w') : Turn g w w' := ⟨h.os, h.tape, h.output, h.size, fun i hi _ => h.block i hi⟩
theorem Turn.below {g B : Nat} {w w' : World} (h : Turn g w w') (hB : B ≤ g) (hs : B ≤ w.heap.size) : Below B w w' := ⟨h.os, h.tape, h.output, h.size, fun k hk => h.block k (by omega) (by omega)⟩

theorem clone_none (cap : Nat) (w : World) : Calls Try.prog 80 #[.slice none 0 cap] w fun e w' => e = .returned (.slice none 0 0) ∧ w' = w := by
  have hq := fun W n' c' => Lib.run_eql_slice_nil (P := Try.prog) W 31 5 none 0 cap n' c' Try.underlying31
  go_enter Try.func80, Try.ntmps80
  go_wp2
  go_ret
  exact ⟨rfl, rfl⟩
theorem RawPost_of {g : Nat} {A : Option Addr} {c : Nat} {l : List UInt8} {E : Nat} {w W2 W' : World} (hR : OwnR W2 g A c l E 0) (hT : Turn g w W2) (hb : Below W2.heap.size W2 W') : OwnR W' g A c l E 0 ∧ Turn g w W' := ⟨hR.new_ hb, hT.trans (Turn.of_below hb)⟩
/-- What Raw hands. -/
def rawS (l : List UInt8) (at_ : Nat) (e n : Int) : List UInt8 × Nat × Int :=
  if e ≠ 0 then ([], at_, e) else if n < 0 then ([], at_, 1) else if ((l.length - at_ : Nat) : Int) < n then ([], at_, 2) else ((l.drop at_).take n.toNat, at_ + n.toNat, 0)
def RawPost (g : Nat) (A : Option Addr) (c : Nat) (l : List UInt8) (at_ : Nat) (e n : Int) (w : World) (e' : Ending) (w' : World) : Prop :=
  ∃ A' c', e' = .returned (.slice A' (rawS l at_ e n).1.length c') ∧ Bytes w' w'.heap.size A' (rawS l at_ e n).1 ∧ OwnR w' g A c l (rawS l at_ e n).2.1 (rawS l at_ e n).2.2 ∧ Turn g w w'
theorem RawPost.no {g : Nat} {A : Option Addr} {c : Nat} {l : List UInt8} {at_ : Nat} {e n k : Int} {w w' : World} {e' : Ending} (h : rawS l at_ e n = ([], at_, k)) (he : e' = .returned (.slice none 0 0)) (hR : OwnR w' g A c l at_ k) (hT : Turn g w w') : RawPost g A c l at_ e n w e' w' := by
  unfold RawPost
  rw [h]
  exact ⟨none, 0, he, Bytes.nil_ _, hR, hT⟩
set_option maxHeartbeats 2000000 in
theorem rraw_any (g : Nat) (A : Option Addr) (c : Nat) (l : List UInt8) (at_ : Nat) (e n : Int) (w : World) (hR : OwnR w g A c l at_ e) (hl : l.length ≤ 140737488355328) (hn0 : -9223372036854775808 ≤ n) (hn1 : n ≤ 9223372036854775807) :
    Calls Try.prog 56 #[.pointer (some ⟨g, 0, none⟩), .int .i64 n] w (RawPost g A c l at_ e n w) := by
  have Hs := Lib.hid (show rawS l at_ e n = if e ≠ 0 then ([], at_, e) else if n < 0 then ([], at_, 1) else if ((l.length - at_ : Nat) : Int) < n then ([], at_, 2) else ((l.drop at_).take n.toNat, at_ + n.toNat, 0) from rfl)
  obtain ⟨c0, c1, c2, f1, f2, lt, hb, hcap, hle⟩ := id hR
  by_cases he : e = 0
  · subst he
    rw [if_neg (by simp)] at Hs
    by_cases hn : n < 0
    · rw [if_pos hn] at Hs
      go_enter Try.func56, Try.ntmps56
      go_wp2_with fail
      refine (fail_any g A c l at_ 0 1 w hR).mono ?_
      rintro e' w3 ⟨rfl, hR3, hb1, hs1, hk1⟩
      have H3 := Lib.hid (And.intro hR3 (Only.turn ⟨hb1.os, hb1.tape, hb1.output, hs1, hk1⟩))
      clear hR3 hb1 hs1 hk1
      go_wp2_with fail
      go_ret
      exact RawPost.no Hs.out rfl H3.out.1 H3.out.2
    · rw [if_neg hn] at Hs
      have hn' : (0 : Int) ≤ n := by omega
      go_enter Try.func56, Try.ntmps56
      go_wp2_with fail
      refine (left_any g A c l at_ 0 w hR hl).mono ?_
      rintro e w' ⟨rfl, rfl⟩
      have hR1 := hR.drew
      have hT1 := ((Only.refl g w).drew).turn
      clear hR c0 c1 c2 f1 f2 lt hb
      generalize w.drew = W at hR1 hT1 ⊢
      have hLL : ((l.length - at_ : Nat) : Int) = (l.length : Int) - (at_ : Int) := by omega
      by_cases hsh : ((l.length - at_ : Nat) : Int) < n
      · rw [if_pos hsh] at Hs
        generalize l.length - at_ = LL at *
        have H1 := Lib.hid (And.intro hR1 hT1)
        clear hR1 hT1
        go_wp2_with fail
        refine (fail_any g A c l at_ 0 2 _ H1.out.1).mono ?_
        rintro e' w3 ⟨rfl, hR3, hb1, hs1, hk1⟩
        have H3 := Lib.hid (And.intro hR3 (H1.out.2.trans (Only.turn ⟨hb1.os, hb1.tape, hb1.output, hs1, hk1⟩)))
        clear hR3 hb1 hs1 hk1
        go_wp2_with fail
        go_ret
        exact RawPost.no Hs.out rfl H3.out.1 H3.out.2
      · rw [if_neg hsh] at Hs
        obtain ⟨m, rfl⟩ := Int.eq_ofNat_of_zero_le hn'
        simp only [Int.toNat_natCast] at Hs
        have hml : (m : Int) ≤ ((l.length - at_ : Nat) : Int) := by omega
        have hm2 : (at_ : Int) + (m : Int) ≤ (l.length : Int) := by omega
        have d1 := hR1.c1
        have f1 := hR1.f1
        have hR2 := hR1.step ((at_ : Int) + (m : Int)) (at_ + m) (by omega) (by omega)
        have hT2 := hT1.trans ((Only.refl g W).setCell 1 (.int .i64 ((at_ : Int) + (m : Int)))).turn
        have H2 := Lib.hid (And.intro hR2 hT2)
        have e0 := hR2.c0
        have e1 := hR2.c1
        clear hR1 hT1 hR2 hT2
        generalize l.length - at_ = LL at *
        go_upto_region 10 with fail
        obtain ⟨E, hE⟩ : ∃ E : Nat, E = at_ + m := ⟨_, rfl⟩
        have hEi : (at_ : Int) + (m : Int) = (E : Int) := by omega
        rw [← hE] at e1 H2
        rw [hEi] at e0 e1 H2 ⊢
        have hEm : (E : Int) - (m : Int) = (at_ : Int) := by omega
        have hEl : (E : Int) ≤ (l.length : Int) := by omega
        have hEc : (E : Int) ≤ (c : Int) := by omega
        have hat : (at_ : Int) ≤ (E : Int) := by omega
        generalize W.setCell ⟨g, 1, none⟩ (.int .i64 (E : Int)) = W2 at *
        have HE := Lib.hid (And.intro hE (And.intro hEi hm2))
        clear hE hEi hm2 d1 f1 hsh hml hLL
        by_cases hm0 : m = 0
        · subst hm0
          have hE0 : E = at_ := by have := HE.out.1; omega
          subst hE0
          cases A with
          | none =>
            have hl0 : l = [] := by
              cases l with
              | nil => rfl
              | cons y r => obtain ⟨_, _, h, _⟩ := H2.out.1.bytes (by simp); cases h
            subst hl0
            obtain rfl : E = 0 := by simp only [List.length_nil] at hle; omega
            simp only [List.length_nil] at e0
            clear hEl hEc hat hEm hle hn' hn hn0 hn1
            go_quiet ((go_at_call 80; go_must (exact Calls.quiet_of_same (clone_none _ _))))
            go_wp2_with fail
            go_ret
            exact RawPost.no Hs.out rfl (H2.out.1.drewN _) (H2.out.2.trans ((Only.refl g W2).drewN _).turn)
          | some a =>
            obtain ⟨b, off, sp⟩ := a
            have hwr : IntKind.i64.wrap (E : Int) = (E : Int) := by rw [IntKind.wrap_i64]; omega
            by_cases hcE : c = E
            all_goals (
              have hlt := H2.out.1.lt
              go_region_held3 (fun w' => w'.cell? ⟨g, 0, none⟩ = some (.slice (some ⟨b, off, sp⟩) l.length c) ∧ w'.cell? ⟨g, 1, none⟩ = some (.int .i64 (E : Int))) (first | exact ⟨e0, e1⟩) (first
                | (go_at_call 80; refine (clone_any _ 0 _ [] _ (Bytes.nil_ _) rfl (by decide) (fun h => by cases h)).mono ?_; rintro e W' ⟨A', c', rfl, ho, _, hb⟩; have hb2 : Below W2.heap.size W2 W' := ⟨hb.os, hb.tape, hb.output, hb.size, hb.block⟩; have e0 := (hb2.cell (p := ⟨g, 0, none⟩) hlt).trans e0; have e1 := (hb2.cell (p := ⟨g, 1, none⟩) hlt).trans e1; clear hb))
              go_wp2_with fail
              go_ret
              unfold RawPost
              rw [Hs.out]
              obtain ⟨hR', hT'⟩ := RawPost_of H2.out.1 H2.out.2 hb2
              exact ⟨A', c', rfl, ho.bytes.1, hR', hT'⟩)
        · have hm1 : 0 < m := by omega
          obtain ⟨b, off, rfl, hbg, hcells⟩ := H2.out.1.bytes (by have := HE.out.1; omega)
          have hml : ((l.drop at_).take m).length = m := by rw [List.length_take, List.length_drop]; have := HE.out.1; omega
          have hac : (at_ : Int) < (c : Int) := by have := HE.out.1; omega
          have hne : ¬ (c = at_) := by omega
          have hwr : IntKind.i64.wrap (at_ : Int) = (at_ : Int) := by rw [IntKind.wrap_i64]; omega
          have hEm2 : E - at_ = m := by have := HE.out.1; omega
          have hBy : Hid (Bytes W2 g (some ⟨b, off + at_, none⟩) ((l.drop at_).take m)) := fun _ => ⟨b, off + at_, rfl, hbg, fun j y hy => by
            have hj : j < m := by
              rcases Nat.lt_or_ge j m with h | h
              · exact h
              · rw [List.getElem?_take, if_neg (by omega)] at hy; cases hy
            rw [List.getElem?_take, if_pos hj, List.getElem?_drop] at hy
            rw [Nat.add_assoc]
            exact hcells _ _ hy⟩
          have Hml := Lib.hid hml
          clear hcells hml hbg
          generalize (l.drop at_).take m = T at *
          · skip
            have hlt := H2.out.1.lt
            go_region_held3 (fun w' => w'.cell? ⟨g, 0, none⟩ = some (.slice (some ⟨b, off, none⟩) l.length c) ∧ w'.cell? ⟨g, 1, none⟩ = some (.int .i64 (E : Int))) (first | exact ⟨e0, e1⟩) (first
              | (go_at_call 80; refine (clone_any _ m _ T _ (by exact hBy.out.more (Nat.le_of_lt hlt)) Hml.out (by omega) (fun h => by cases h)).mono ?_; rintro e W' ⟨A', c', rfl, ho, _, hb⟩; have hb2 : Below W2.heap.size W2 W' := ⟨hb.os, hb.tape, hb.output, hb.size, hb.block⟩; have e0 := (hb2.cell (p := ⟨g, 0, none⟩) hlt).trans e0; have e1 := (hb2.cell (p := ⟨g, 1, none⟩) hlt).trans e1; clear hb))
            go_wp2_with fail
            go_ret
            unfold RawPost
            rw [Hs.out]
            obtain ⟨hR', hT'⟩ := RawPost_of H2.out.1 H2.out.2 hb2
            exact ⟨A', c', by rw [Hml.out]; rfl, ho.bytes.1, by rw [← HE.out.1]; exact hR', hT'⟩
  · rw [if_pos he] at Hs
    have hq : (e != 0) = true := by rw [bne_iff_ne]; exact he
    go_enter Try.func56, Try.ntmps56
    go_wp2
    go_ret
    exact RawPost.no Hs.out rfl hR (Turn.refl g w)
end Go.Proofs.Ytegpoghgddjmaaa
