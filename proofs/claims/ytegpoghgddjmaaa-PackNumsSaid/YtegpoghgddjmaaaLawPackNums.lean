/- The law PackNums: its walk, joined with the plain law of a number's form. -/
import Derived.Test.YtegpoghgddjmaaaRefNum
import Derived.Test.YtegpoghgddjmaaaCaps
import Derived.Deep.RegionHeld3
namespace Go.Proofs.Ytegpoghgddjmaaa
open Go.RowKit
set_option maxRecDepth 100000

/-- A reader that has failed hands nothing. -/
theorem rnum_err (g : Nat) (A : Option Addr) (c : Nat) (l : List UInt8) (at_ : Nat) (e : Int) (w : World) (hR : OwnR w g A c l at_ e) (he : e ≠ 0) :
    Calls Try.prog 32 #[.pointer (some ⟨g, 0, none⟩)] w fun e' w' => e' = .returned (.int .u64 0) ∧ w' = w := by
  obtain ⟨c0, c1, c2, f1, f2, lt, hb, hcap, hle⟩ := id hR
  have hq : (e != 0) = true := by rw [bne_iff_ne]; exact he
  go_enter Try.func32, Try.ntmps32
  go_wp2
  go_step3
  go_wp2
  rw [Exit.noGoto_ret]
  go_ret
  exact ⟨rfl, rfl⟩

theorem err_q (g : Nat) (A : Option Addr) (c : Nat) (l : List UInt8) (at_ : Nat) (e : Int) (w : World) (hR : OwnR w g A c l at_ e) (j : Nat) : Calls Try.prog 34 #[.pointer (some ⟨g, 0, none⟩)] (w.drewN j) fun e' w' => e' = .returned (.int .i64 e) ∧ ∃ m, w' = w.drewN m :=
  (err_any g A c l at_ e _ (hR.drewN j)).mono fun _ _ h => ⟨h.2, j, h.1⟩
theorem at_q (g : Nat) (A : Option Addr) (c : Nat) (l : List UInt8) (at_ : Nat) (e : Int) (w : World) (hR : OwnR w g A c l at_ e) (j : Nat) : Calls Try.prog 35 #[.pointer (some ⟨g, 0, none⟩)] (w.drewN j) fun e' w' => e' = .returned (.int .i64 (at_ : Nat)) ∧ ∃ m, w' = w.drewN m :=
  (at_any g A c l at_ e _ (hR.drewN j)).mono fun _ _ h => ⟨h.2, j, h.1⟩
theorem left_q (g : Nat) (A : Option Addr) (c : Nat) (l : List UInt8) (at_ : Nat) (e : Int) (w : World) (hR : OwnR w g A c l at_ e) (hl : l.length ≤ 140737488355328) (j : Nat) : Calls Try.prog 36 #[.pointer (some ⟨g, 0, none⟩)] (w.drewN j) fun e' w' => e' = .returned (.int .i64 (l.length - at_ : Nat)) ∧ ∃ m, w' = w.drewN m :=
  (left_any g A c l at_ e _ (hR.drewN j) hl).mono fun _ _ h => ⟨h.2, j + 1, h.1⟩
theorem done_q (g : Nat) (A : Option Addr) (c : Nat) (l : List UInt8) (at_ : Nat) (e : Int) (w : World) (hR : OwnR w g A c l at_ e) (hl : l.length ≤ 140737488355328) (j : Nat) : Calls Try.prog 37 #[.pointer (some ⟨g, 0, none⟩)] (w.drewN j) fun e' w' => e' = .returned (.int .i64 (if e = 0 ∧ at_ < l.length then 3 else e)) ∧ ∃ m, w' = w.drewN m :=
  (done_any g A c l at_ e _ (hR.drewN j) hl).mono fun _ _ h => ⟨h.2, by obtain ⟨⟨n, h⟩, _⟩ := h; exact ⟨j + n, by rw [h, World.drewN_drewN]⟩⟩
theorem num_q (g : Nat) (A : Option Addr) (c : Nat) (l : List UInt8) (at_ : Nat) (e : Int) (w : World) (hR : OwnR w g A c l at_ e) (he : e ≠ 0) (j : Nat) : Calls Try.prog 32 #[.pointer (some ⟨g, 0, none⟩)] (w.drewN j) fun e' w' => e' = .returned (.int .u64 0) ∧ ∃ m, w' = w.drewN m :=
  (rnum_err g A c l at_ e _ (hR.drewN j) he).mono fun _ _ h => ⟨h.1, j, h.2⟩
theorem getNum_err {b : List UInt8} {v n : Nat} {k : Int} (h : getNum b = (v, n, k)) : (k = 0 ∨ (k ≠ 0 ∧ v = 0 ∧ n = 0)) ∧ n ≤ b.length := by
  by_cases h0 : k = 0
  · subst h0
    exact ⟨.inl rfl, (getNum_num h).1⟩
  · have : (v = 0 ∧ n = 0) := by
      unfold getNum at h
      split at h
      · simp only [Prod.mk.injEq] at h; omega
      · split at h
        · simp only [Prod.mk.injEq] at h; omega
        · split at h
          · simp only [Prod.mk.injEq] at h; omega
          · simp only [Prod.mk.injEq] at h; omega
    exact ⟨.inr ⟨h0, this⟩, by omega⟩

set_option maxHeartbeats 40000000 in
theorem packNums_law (A : Option Addr) (n cap : Nat) (l : List UInt8) (w : World) (hA : Bytes w w.heap.size A l) (hn : l.length = n) (hcap : A = none → cap = 0) (hle : n ≤ cap) :
    Calls Try.prog 5 #[.slice A n cap] w fun e w' => e = .returned (.bool true) ∧ Below w.heap.size w w' := by
  go_enter Try.func5, Try.ntmps5
  go_wp2_with fail
  refine (awake02_any w).mono ?_
  rintro e w1 ⟨rfl, hB⟩
  have HB := Lib.hid hB
  clear hB
  by_cases h60 : 60 < n
  · go_wp2_with fail
    go_ret
    exact ⟨rfl, HB.out⟩
  have h60' : (n : Int) ≤ 60 := by omega
  go_wp2_with fail
  refine (newReader_any A n cap l w1 ((hA.below HB.out).more HB.out.size) hn (by omega) hcap).mono ?_
  rintro e w2 ⟨g, A2, c2, rfl, hg, hR, hb⟩
  have H2 := Lib.hid (And.intro hR (And.intro (HB.out.trans (hb.mono HB.out.size)) (Nat.le_trans HB.out.size hg)))
  clear HB hR hg hb
  go_wp2_with fail
  refine (rnum_any g A2 c2 l 0 0 w2 H2.out.1 (by omega)).mono ?_
  rintro e w3 ⟨hR, rfl, hO⟩
  rw [if_pos rfl, if_pos rfl, List.drop_zero, Nat.zero_add] at hR
  rw [if_pos rfl, List.drop_zero]
  have hB3 := hO.new_ H2.out.2.2 H2.out.2.1
  have H3 := Lib.hid (And.intro hR (And.intro hB3 H2.out.2.2))
  clear H2 hR hB3 hO
  go_wp2_with fail
  refine (rgetnum_any A n cap l 0 w3 ((hA.below H3.out.2.1).more H3.out.2.1.size) hn (by omega) (by omega)).mono ?_
  rintro e w4 ⟨rfl, hb⟩
  rw [List.drop_zero]
  have hR4 := H3.out.1.new_ hb
  have H4 := Lib.hid (And.intro (H3.out.2.1.trans (hb.mono H3.out.2.1.size)) H3.out.2.2)
  clear hb H3
  have Hget := Lib.hid (fun v m (h : getNum l = (v, m, (0 : Int))) => getNum_num h)
  obtain ⟨⟨v, m, k⟩, hg⟩ : ∃ r, getNum l = r := ⟨_, rfl⟩
  have He := Lib.hid (getNum_err hg)
  rw [hg] at hR4 Hget ⊢
  simp only at hR4 ⊢
  clear hg
  go_upto_region 8 with fail
  have q0 : (w4.alloc (.cells #[.int .u64 v, .int .i64 m, .int .i64 k] 47)).cell? ⟨w4.heap.size, 0, none⟩ = some (.int .u64 v) := cell_of_row _ _ _ _ _ _ (heap_alloc_new w4 _)
  have q1 : (w4.alloc (.cells #[.int .u64 v, .int .i64 m, .int .i64 k] 47)).cell? ⟨w4.heap.size, 1, none⟩ = some (.int .i64 m) := cell_of_row _ _ _ _ _ _ (heap_alloc_new w4 _)
  have q2 : (w4.alloc (.cells #[.int .u64 v, .int .i64 m, .int .i64 k] 47)).cell? ⟨w4.heap.size, 2, none⟩ = some (.int .i64 k) := cell_of_row _ _ _ _ _ _ (heap_alloc_new w4 _)
  have hR5 := hR4.new_ (na (nr w4) (.cells #[.int .u64 v, .int .i64 m, .int .i64 k] 47))
  have hB5 := H4.out.1.trans ((na (nr w4) (.cells #[.int .u64 v, .int .i64 m, .int .i64 k] 47)).mono H4.out.1.size)
  have hq5 : Hid (w4.heap.size < (w4.alloc (.cells #[.int .u64 v, .int .i64 m, .int .i64 k] 47)).heap.size ∧ w.heap.size ≤ w4.heap.size) := ⟨by simp, H4.out.1.size⟩
  have H5 := Lib.hid (And.intro hB5 (And.intro H4.out.2 hq5.out))
  clear hR4 H4 hB5 hq5
  generalize (w4.alloc (.cells #[.int .u64 v, .int .i64 m, .int .i64 k] 47)) = W5 at *
  generalize w4.heap.size = q at *
  have hml := He.out.2
  have hlm : ((l.length - m : Nat) : Int) = (n : Int) - (m : Int) := by omega
  have cErr := Lib.hid (err_q g A2 c2 l m k W5 hR5)
  have cAt := Lib.hid (at_q g A2 c2 l m k W5 hR5)
  have cLeft := Lib.hid (left_q g A2 c2 l m k W5 hR5 (by omega))
  rw [hlm] at cLeft
  have H6 := Lib.hid hR5
  have hmi : (m : Int) ≤ (n : Int) := by omega
  clear hlm hml hR5
  go_quiet (first
    | (go_at_call 34; go_must (exact cErr.out _))
    | (go_at_call 35; go_must (exact cAt.out _))
    | (go_at_call 36; go_must (exact cLeft.out _)))
  by_cases hk : k = 0
  · subst hk
    have Hn := Lib.hid (Hget.out v m rfl)
    clear Hget He cErr cAt cLeft
    have hv := Hn.out.2.2
    go_wp2_with fail
    refine (newWriter_any _).mono ?_
    rintro e w6 ⟨rfl, hW6, hb6⟩
    have hb6 : Below W5.heap.size W5 w6 := ⟨hb6.os, hb6.tape, hb6.output, hb6.size, hb6.block⟩
    rw [show (W5.drewN nq).heap.size = W5.heap.size from rfl] at hW6 ⊢
    have H7 := Lib.hid (And.intro hW6 hb6)
    clear hW6 hb6
    go_wp2_with fail
    refine (wnum_any _ v [] w6 hv _ H7.out.1 (by simp)).mono ?_
    rintro e w7 ⟨rfl, vw, hW7, hG7⟩
    have hb7 := hG7.new_ H7.out.1 (Nat.le_refl _) H7.out.2
    rw [List.nil_append] at hW7
    have q1' : w7.cell? ⟨q, 1, none⟩ = some (.int .i64 m) := (hb7.cell (p := ⟨q, 1, none⟩) H5.out.2.2.1).trans q1
    have hml : (m : Int) ≤ (n : Int) := by have := Hn.out.1; omega
    have hmc : (m : Int) ≤ (cap : Int) := by omega
    have hB7 := H5.out.1.trans (hb7.mono H5.out.1.size)
    have H8 := Lib.hid (And.intro hW7 (And.intro hb7 (H6.out.new_ hb7)))
    clear H7 hW7 hG7 hb7 q0 q1 q2 hv
    generalize W5.heap.size = gw at *
    have hl60 : l.length ≤ 140737488355328 := by omega
    have Cb := Lib.hid (fun W (h : Below w7.heap.size w7 W) => wbytes_any gw (num v) W vw (H8.out.1.new_ h) (by have := num_length v; omega))
    have Cd := Lib.hid (fun W (h : Below w7.heap.size w7 W) => done_any g A2 c2 l m 0 W (H8.out.2.2.new_ h) hl60)
    have Ck := Lib.hid (fun W (h : Below w7.heap.size w7 W) => run_str W _ A m cap (l.take m) ((((hA.below (hB7.trans (h.mono hB7.size))).more (Nat.le_refl _)).take m)) (by rw [List.length_take]; have := Hn.out.1; omega))
    have Cq := Lib.hid (fun W (h : Below w7.heap.size w7 W) => (h.cell (p := ⟨q, 1, none⟩) (show q < w7.heap.size from Nat.lt_of_lt_of_le H5.out.2.2.1 (Nat.le_of_lt H8.out.1.2.2.1))).trans q1')
    have Ht := Lib.hid Hn.out.2.1
    have hlen : Hid ((num v).length = m) := by unfold Hid; rw [Ht.out, List.length_take]; have := Hn.out.1; omega
    rw [← Ht.out] at Ck
    clear Hn H6 q1' hA
    generalize num v = Z at *
    clear Ht
    have hcur := nd (nr w7)
    clear H8
    have hdv : (((if (0 : Int) = 0 ∧ m < l.length then (3 : Int) else 0) == 0) == ((m : Int) == (n : Int))) = true := by
      by_cases h : m < n
      · rw [if_pos ⟨rfl, by omega⟩, show ((m : Int) == (n : Int)) = false by rw [beq_eq_false_iff_ne]; omega]
        rfl
      · rw [if_neg (by omega), show ((m : Int) == (n : Int)) = true by rw [beq_iff_eq]; omega]
        rfl
    generalize (if (0 : Int) = 0 ∧ m < l.length then (3 : Int) else 0) = dv at Cd hdv
    have cq := Cq.out _ hcur
    have ck := Ck.out _ hcur
    go_wp2_with fail
    go_region_with (first
        | (go_at_call 30; refine (Cb.out _ hcur).mono ?_; rintro e W' ⟨A7, c7, rfl, ho, hb'⟩; have hcur := nt hcur hb'; have cq := Cq.out _ hcur; have ck := Ck.out _ hcur; have r1 := run_str W' _ A7 _ c7 _ ho.bytes.1 rfl; clear hb' ho)
        | (go_at_call 37; refine (Cd.out _ hcur).mono ?_; rintro e W' ⟨⟨nn, rfl⟩, rfl⟩; have hcur := nD hcur nn; have cq := Cq.out _ hcur))
    all_goals go_wp2_with fail
    all_goals go_ret
    all_goals (
      refine ⟨?_, hB7.trans (hcur.mono hB7.size)⟩
      first
        | (show Ending.returned (Value.bool ((dv == 0) == ((m : Int) == (n : Int)))) = _; rw [hdv]; done)
        | (simp [Act.put]; done))
  · obtain ⟨rfl, rfl⟩ : v = 0 ∧ m = 0 := by rcases He.out.1 with h | ⟨_, h1, h2⟩ <;> omega
    have hkb : (k != 0) = true := by rw [bne_iff_ne]; exact hk
    have hR9 := H6.out.drewN nq
    have q2' : (W5.drewN nq).cell? ⟨q, 2, none⟩ = some (.int .i64 k) := q2
    have hB9 : Below w.heap.size w (W5.drewN nq) := nD H5.out.1 nq
    clear Hget He cErr cAt cLeft q0 q1 q2 H5 H6
    go_wp2_with fail
    generalize W5.drewN nq = W8 at hR9 q2' hB9 ⊢
    have cNum := Lib.hid (num_q g A2 c2 l 0 k W8 hR9 hk)
    have cAt := Lib.hid (at_q g A2 c2 l 0 k W8 hR9)
    have cDone := Lib.hid (done_q g A2 c2 l 0 k W8 hR9 (by omega))
    rw [if_neg (by omega)] at cDone
    have HB9 := Lib.hid hB9
    clear hk hR9 hB9
    go_quiet (first
      | (go_at_call 37; go_must (exact cDone.out _))
      | (go_at_call 35; go_must (exact cAt.out _))
      | (go_at_call 32; go_must (exact cNum.out _)))
    go_wp2_with fail
    go_ret
    exact ⟨rfl, nD HB9.out _⟩
end Go.Proofs.Ytegpoghgddjmaaa
