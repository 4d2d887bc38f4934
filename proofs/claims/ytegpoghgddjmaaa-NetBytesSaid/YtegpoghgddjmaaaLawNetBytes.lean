/- The walk of the law NetBytes. -/
import Derived.Test.YtegpoghgddjmaaaAwake23
import Derived.Test.YtegpoghgddjmaaaNetRef3
namespace Go.Proofs.Ytegpoghgddjmaaa
open Go.RowKit
set_option maxRecDepth 100000

/-- What Bytes makes of a message, and its error. -/
def bytesR (a : Bool) (h : Int) (n : Nat) (l : List UInt8) : List UInt8 × Int := if rightS a h n then (mform a h l, 0) else ([], 1)
def NBPost (L : List UInt8) (E : Int) (w : World) (e : Ending) (w' : World) : Prop :=
  ∃ A' c', e = .returned (.tuple #[.slice A' L.length c', .int .i64 E]) ∧ Bytes w' w'.heap.size A' L ∧ (A' = none → c' = 0) ∧ Below w.heap.size w w'
theorem NBPost.of {a : Bool} {h : Int} {n : Nat} {l L : List UInt8} {E : Int} {w w' : World} {e : Ending} (hp : NBytesPost a h n l w e w') (hL : bytesR a h n l = (L, E)) : NBPost L E w e w' := by
  obtain ⟨hb, ⟨hr, rfl⟩ | ⟨hr, A', c', rfl, ho⟩⟩ := hp
  · unfold bytesR at hL
    rw [hr, if_neg (by decide)] at hL
    injection hL with e1 e2
    subst e1 e2
    exact ⟨none, 0, rfl, Bytes.nil_ _, fun _ => rfl, hb⟩
  · unfold bytesR at hL
    rw [hr, if_pos rfl] at hL
    injection hL with e1 e2
    subst e1 e2
    exact ⟨A', c', rfl, ho.bytes.1, own_nil ho, hb⟩
/-- What Read makes of bytes: a wrong one's message is empty. -/
def readR (l : List UInt8) : Bool × Nat × List UInt8 × Int := if (readS l).2.2.2 = 0 then readS l else (false, 0, [], (readS l).2.2.2)
def NRPost (a : Bool) (h : Nat) (d : List UInt8) (E : Int) (w : World) (e : Ending) (w' : World) : Prop :=
  ∃ A' c', e = .returned (.tuple #[MV a (h : Nat) A' d.length c', .int .i64 E]) ∧ Bytes w' w'.heap.size A' d ∧ (A' = none → c' = 0) ∧ Below w.heap.size w w'
theorem NRPost.of {l d : List UInt8} {a : Bool} {h : Nat} {E : Int} {w w' : World} {e : Ending} (hp : NReadPost l w e w') (hL : readR l = (a, h, d, E)) : NRPost a h d E w e w' := by
  obtain ⟨hb, ⟨E', h1, h2, rfl⟩ | ⟨a', h', d', A', c', hr, rfl, hby, hc⟩⟩ := hp
  · unfold readR at hL
    rw [h1, if_neg h2] at hL
    injection hL with e1 hL
    injection hL with e2 hL
    injection hL with e3 e4
    subst e1 e2 e3 e4
    exact ⟨none, 0, rfl, Bytes.nil_ _, fun _ => rfl, hb⟩
  · unfold readR at hL
    rw [hr] at hL
    rw [if_pos rfl] at hL
    injection hL with e1 hL
    injection hL with e2 hL
    injection hL with e3 e4
    subst e1 e2 e3 e4
    exact ⟨A', c', rfl, hby, hc, hb⟩
theorem readR_back {b d : List UInt8} {a : Bool} {h : Nat} (hb : readR b = (a, h, d, 0)) : bytesR a h d.length d = (b, 0) := by
  unfold readR at hb
  split at hb
  · obtain ⟨h1, h2⟩ := readS_back hb
    unfold bytesR
    rw [h1, if_pos rfl, h2]
  · next hne =>
    injection hb with _ hb
    injection hb with _ hb
    injection hb with _ e
    exact absurd e hne
theorem bytesR_back {a : Bool} {h : Int} {l L : List UInt8} (hb : bytesR a h l.length l = (L, 0)) : readR L = (a, h.toNat, l, 0) ∧ 0 ≤ h := by
  unfold bytesR at hb
  split at hb
  · next hr =>
    injection hb with e _
    subst e
    have := readS_mform a h l hr
    unfold readR
    rw [this, if_pos rfl]
    exact ⟨rfl, (right_in hr).1⟩
  · injection hb with _ e
    cases e
theorem same_self (a : Bool) (h : Int) (l : List UInt8) : sameS a a h h l l = true := by simp [sameS]
theorem Bytes.new_ {W W' : World} {A : Option Addr} {l : List UInt8} (h : Bytes W W.heap.size A l) (hb : Below W.heap.size W W') : Bytes W' W'.heap.size A l := (h.below hb).more hb.size
/-- The message's cells, and the memory of the arguments as it was. -/
structure LB (w W : World) (a : Bool) (h : Int) (v : Value) : Prop where
  m : MC W w.heap.size a h v
  b : Below w.heap.size w W
  lt : w.heap.size < W.heap.size
theorem LB.new_ {w W W' : World} {a : Bool} {h : Int} {v : Value} (k : LB w W a h v) (hb : Below W.heap.size W W') : LB w W' a h v :=
  ⟨k.m.keep (hb.block _ k.lt), k.b.trans (hb.mono (Nat.le_of_lt k.lt)), Nat.lt_of_lt_of_le k.lt hb.size⟩
theorem LB.arg {w W : World} {a : Bool} {h : Int} {v : Value} (k : LB w W a h v) {A : Option Addr} {l : List UInt8} (hA : Bytes w w.heap.size A l) : Bytes W W.heap.size A l := (hA.below k.b).more k.b.size
/-- A local message's cells. -/
structure ML (W : World) (P : Nat) (a : Bool) (h : Int) (v : Value) : Prop where
  m : MC W P a h v
  lt : P < W.heap.size
theorem ML.new_ {W W' : World} {P : Nat} {a : Bool} {h : Int} {v : Value} (k : ML W P a h v) (hb : Below W.heap.size W W') : ML W' P a h v :=
  ⟨k.m.keep (hb.block _ k.lt), Nat.lt_of_lt_of_le k.lt hb.size⟩
theorem ML.made (W : World) (a : Bool) (h : Int) (v : Value) (t : TypeId) : ML (W.alloc (.cells #[.bool a, .int .i64 h, v] t)) W.heap.size a h v := ⟨MC.made _ _ _ _ _, by simp⟩
set_option maxHeartbeats 8000000 in
theorem netBytes_law (a : Bool) (h : Int) (A : Option Addr) (n c : Nat) (l : List UInt8) (B : Option Addr) (m k : Nat) (b : List UInt8) (w : World) (hA : Bytes w w.heap.size A l) (hn : l.length = n) (hn63 : n ≤ 9223372036854775807) (hB : Bytes w w.heap.size B b) (hm : b.length = m) (hk : (B = none → k = 0) ∧ m ≤ k ∧ k ≤ 9223372036854775807) :
    Calls Try.prog 10 #[MV a h A n c, .slice B m k] w fun e w' => e = .returned (.bool true) ∧ Below w.heap.size w w' := by
  subst hn hm
  have hb0 := na (nr w) (.cells #[.bool a, .int .i64 h, .slice A l.length c] 54)
  have hm0 := MC.made w a h (.slice A l.length c) 54
  have hs0 : w.heap.size < (w.alloc (.cells #[.bool a, .int .i64 h, .slice A l.length c] 54)).heap.size := by simp
  go_enter Try.func10, Try.ntmps10
  go_wp2_with fail
  refine (awake23_any _).mono ?_
  rintro e w1 ⟨rfl, hB1⟩
  have hm1 := hm0.keep (hB1.block w.heap.size hs0)
  have H1 : Hid (LB w w1 a h (.slice A l.length c)) := ⟨hm1, nt hb0 hB1, Nat.lt_of_lt_of_le hs0 hB1.size⟩
  obtain ⟨p0, p1, p2, _, _, _⟩ := hm1
  clear hb0 hm0 hs0 hB1
  by_cases hn3 : 3000 < l.length
  · have hn3i : (3000 : Int) < (l.length : Int) := by omega
    go_wp2_with fail
    go_ret
    exact ⟨rfl, H1.out.b⟩
  have hn3i : (l.length : Int) ≤ 3000 := by omega
  by_cases hm3 : 3000 < b.length
  · have hm3i : (3000 : Int) < (b.length : Int) := by omega
    go_wp2_with fail
    go_ret
    exact ⟨rfl, H1.out.b⟩
  have hm3i : (b.length : Int) ≤ 3000 := by omega
  have HA := Lib.hid hA
  have HB := Lib.hid hB
  have Hk := Lib.hid hk
  clear hA hB hk
  obtain ⟨⟨L, E⟩, hL⟩ : ∃ r, bytesR a h l.length l = r := ⟨_, rfl⟩
  obtain ⟨⟨a4, h4, d, G⟩, hR⟩ : ∃ r, readR b = r := ⟨_, rfl⟩
  have HL := Lib.hid hL
  have HLl : Hid (L.length ≤ 4000) := show _ ≤ _ by
    unfold bytesR at hL
    split at hL
    · injection hL with e _
      rw [← e]
      unfold mform
      have k1 := num_length 1
      have k2 := num_length h.toNat
      have k3 := num_length 0
      have k4 := num_length l.length
      split
      · rw [List.length_append]; omega
      · rw [List.length_append, List.length_append]; omega
    · injection hL with e _
      rw [← e]
      exact Nat.zero_le _
  have Hd : Hid (d.length ≤ 3000) := show _ ≤ _ by
    by_cases hG : G = 0
    · subst hG
      have h2 := readR_back hR
      unfold bytesR at h2
      split at h2
      · next hr =>
        injection h2 with e _
        have e2 := congrArg List.length e
        unfold mform at e2
        split at e2
        · next ha =>
          simp [rightS, ha] at hr
          rw [hr.2]
          exact Nat.zero_le _
        · rw [List.length_append, List.length_append] at e2; omega
      · injection h2 with _ e
        cases e
    · unfold readR at hR
      split at hR
      · next hz =>
        rw [hR] at hz
        exact absurd hz hG
      · injection hR with _ hR
        injection hR with _ hR
        injection hR with e _
        rw [← e]
        exact Nat.zero_le _
  have HR := Lib.hid hR
  clear hL hR
  go_wp2_with fail
  refine (nbytes_any a h A l.length c l w1 (H1.out.arg HA.out) rfl hn63).mono ?_
  rintro e w2 hp
  obtain ⟨A2, c2, rfl, hx2, hc2, hb2⟩ := NBPost.of hp HL.out
  have H2 := Lib.hid (H1.out.new_ hb2)
  have X2 := Lib.hid hx2
  have C2 := Lib.hid hc2
  clear hp hx2 hc2 hb2 H1 p0 p1 p2
  obtain ⟨p0, p1, p2, _, _, _⟩ := H2.out.m
  go_wp2_with fail
  refine (rbytes_any a h A l.length c l w2 (H2.out.arg HA.out) rfl hn63).mono ?_
  rintro e w3 hp
  obtain ⟨A3, c3, rfl, hx3, _, hb3⟩ := NBPost.of hp HL.out
  have H3 := Lib.hid (H2.out.new_ hb3)
  have X23 := Lib.hid (X2.out.new_ hb3)
  have X3 := Lib.hid hx3
  clear hp hx3 hb3 H2 X2 p0 p1 p2
  obtain ⟨p0, p1, p2, _, _, _⟩ := H3.out.m
  go_wp2_with fail
  refine (nread_any B b.length k b w3 (H3.out.arg HB.out) rfl (by omega) Hk.out.1).mono ?_
  rintro e w4 hp
  obtain ⟨A4, c4, rfl, hx4, hc4, hb4⟩ := NRPost.of hp HR.out
  have hb4' := nt hb4 (na (nr w4) (.cells #[.bool a4, .int .i64 (h4 : Nat), .slice A4 d.length c4] 54))
  have H4 := Lib.hid (H3.out.new_ hb4')
  have X24 := Lib.hid (X23.out.new_ hb4')
  have X34 := Lib.hid (X3.out.new_ hb4')
  have X4 := Lib.hid (hx4.new_ (na (nr w4) (.cells #[.bool a4, .int .i64 (h4 : Nat), .slice A4 d.length c4] 54)))
  have C4 := Lib.hid hc4
  have P4 := Lib.hid (ML.made w4 a4 (h4 : Nat) (.slice A4 d.length c4) 54)
  clear hp hx4 hb4 hc4 H3 X23 X3 p0 p1 p2 hb4'
  obtain ⟨p0, p1, p2, _, _, _⟩ := H4.out.m
  go_wp2_with fail
  generalize w4.alloc (.cells #[.bool a4, .int .i64 (h4 : Nat), .slice A4 d.length c4] 54) = W4 at *
  generalize w4.heap.size = P at *
  refine (rread_any B b.length k b W4 (H4.out.arg HB.out) rfl (by omega) Hk.out.1 Hk.out.2.1).mono ?_
  rintro e w5 hp
  obtain ⟨A5, c5, rfl, hx5, _, hb5⟩ := NRPost.of hp HR.out
  have hb5' := nt hb5 (na (nr w5) (.cells #[.bool a4, .int .i64 (h4 : Nat), .slice A5 d.length c5] 54))
  have H5 := Lib.hid (H4.out.new_ hb5')
  have X25 := Lib.hid (X24.out.new_ hb5')
  have X35 := Lib.hid (X34.out.new_ hb5')
  have X45 := Lib.hid (X4.out.new_ hb5')
  have P45 := Lib.hid (P4.out.new_ hb5')
  have X5 := Lib.hid (hx5.new_ (na (nr w5) (.cells #[.bool a4, .int .i64 (h4 : Nat), .slice A5 d.length c5] 54)))
  have P5 := Lib.hid (ML.made w5 a4 (h4 : Nat) (.slice A5 d.length c5) 54)
  clear hp hx5 hb5 H4 X24 X34 X4 P4 p0 p1 p2 hb5'
  have r1 := run_str _ _ A2 L.length c2 L X25.out rfl
  have r2 := run_str _ _ A3 L.length c3 L X35.out rfl
  obtain ⟨p0, p1, p2, _, _, _⟩ := P45.out.m
  obtain ⟨q0, q1, q2, _, _, _⟩ := P5.out.m
  go_wp2_with fail
  refine (rsame_any a4 a4 (h4 : Nat) (h4 : Nat) A4 A5 d.length c4 d.length c5 d d _ X45.out rfl X5.out rfl).mono ?_
  rintro e w6 ⟨rfl, hb6⟩
  rw [same_self]
  have H6 := Lib.hid (H5.out.new_ hb6)
  have X26 := Lib.hid (X25.out.new_ hb6)
  have X46 := Lib.hid (X45.out.new_ hb6)
  have P46 := Lib.hid (P45.out.new_ hb6)
  clear hb6 H5 X25 X35 X45 X5 P45 P5 p0 p1 p2 q0 q1 q2 r1 r2
  by_cases hE : E = 0
  · as_aux_lemma =>
      subst hE
      obtain ⟨hRL, h0⟩ := bytesR_back HL.out
      obtain ⟨hh, rfl⟩ := Int.eq_ofNat_of_zero_le h0
      rw [Int.toNat_natCast] at hRL
      have HRL := Lib.hid hRL
      clear hRL
      go_wp2_with fail
      refine (nread_any A2 L.length c2 L w6 X26.out rfl (by have := HLl.out; omega) C2.out).mono ?_
      rintro e w7 hp
      obtain ⟨A7, c7, rfl, hx7, _, hb7⟩ := NRPost.of hp HRL.out
      have hb7' := nt hb7 (na (nr w7) (.cells #[.bool a, .int .i64 (hh : Nat), .slice A7 l.length c7] 54))
      have H7 := Lib.hid (H6.out.new_ hb7')
      have X47 := Lib.hid (X46.out.new_ hb7')
      have P47 := Lib.hid (P46.out.new_ hb7')
      have X7 := Lib.hid (hx7.new_ (na (nr w7) (.cells #[.bool a, .int .i64 (hh : Nat), .slice A7 l.length c7] 54)))
      have P7 := ML.made w7 a (hh : Nat) (.slice A7 l.length c7) 54
      obtain ⟨p0, p1, p2, _, _, _⟩ := H7.out.m
      obtain ⟨q0, q1, q2, _, _, _⟩ := P7.m
      clear hp hx7 hb7 hb7' H6 X26 X46 P46 P7
      go_wp2_with fail
      refine (rsame_any a a (hh : Nat) (hh : Nat) A7 A l.length c7 l.length c l l _ X7.out rfl (H7.out.arg HA.out) rfl).mono ?_
      rintro e w7s ⟨rfl, hbs⟩
      rw [same_self]
      have H7s := Lib.hid (H7.out.new_ hbs)
      have X4s := Lib.hid (X47.out.new_ hbs)
      have P4s := Lib.hid (P47.out.new_ hbs)
      clear hbs H7 X47 P47 X7 p0 p1 p2 q0 q1 q2
      by_cases hG : G = 0
      · subst hG
        obtain ⟨p0, p1, p2, _, _, _⟩ := P4s.out.m
        go_wp2_with fail
        refine (nbytes_any a4 (h4 : Nat) A4 d.length c4 d w7s X4s.out rfl (by have := Hd.out; omega)).mono ?_
        rintro e w8 hp
        obtain ⟨A8, c8, rfl, hx8, hc8, hb8⟩ := NBPost.of hp (readR_back HR.out)
        have r1 := run_str _ _ A8 b.length c8 b hx8 rfl
        have r2 := run_str _ _ B b.length k b ((H7s.out.new_ hb8).arg HB.out) rfl
        have H8 := Lib.hid (H7s.out.new_ hb8)
        clear hp hx8 hc8 hb8
        go_wp2_with fail
        go_ret
        exact ⟨rfl, H8.out.b⟩
      · have hG' : (G == 0) = false := by rw [beq_eq_false_iff_ne]; exact hG
        go_wp2_with fail
        go_ret
        exact ⟨rfl, H7s.out.b⟩
  · as_aux_lemma =>
      have hE' : (E == 0) = false := by rw [beq_eq_false_iff_ne]; exact hE
      by_cases hG : G = 0
      · subst hG
        obtain ⟨p0, p1, p2, _, _, _⟩ := P46.out.m
        go_wp2_with fail
        refine (nbytes_any a4 (h4 : Nat) A4 d.length c4 d w6 X46.out rfl (by have := Hd.out; omega)).mono ?_
        rintro e w8 hp
        obtain ⟨A8, c8, rfl, hx8, hc8, hb8⟩ := NBPost.of hp (readR_back HR.out)
        have r1 := run_str _ _ A8 b.length c8 b hx8 rfl
        have r2 := run_str _ _ B b.length k b ((H6.out.new_ hb8).arg HB.out) rfl
        have H8 := Lib.hid (H6.out.new_ hb8)
        clear hp hx8 hc8 hb8
        go_wp2_with fail
        go_ret
        exact ⟨rfl, H8.out.b⟩
      · have hG' : (G == 0) = false := by rw [beq_eq_false_iff_ne]; exact hG
        go_wp2_with fail
        go_ret
        exact ⟨rfl, H6.out.b⟩
end Go.Proofs.Ytegpoghgddjmaaa
