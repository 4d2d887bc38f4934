/- The law PackReads: its walk. -/
import Derived.Test.YtegpoghgddjmaaaReadsSt
import Derived.Test.YtegpoghgddjmaaaCaps
import Derived.Deep.RegionHeld3
import Derived.Deep.CutBlock
namespace Go.Proofs.Ytegpoghgddjmaaa
open Go.RowKit
set_option maxRecDepth 100000

/-- The reader, and the document's place and error beside it. -/
def PR (w wr : World) (gr : Nat) (A2 : Option Addr) (c2 : Nat) (l : List UInt8) (at_ : Nat) (e : Int) : Prop := OwnR wr gr A2 c2 l at_ e ∧ Below w.heap.size w wr
def PR2 (w wr : World) (q n c gr : Nat) (A2 : Option Addr) (c2 : Nat) (l : List UInt8) : Prop :=
  ∃ l' : List UInt8, l'.length = n ∧ Own wr w.heap.size (.slice (some ⟨q, 0, none⟩) n c) l' ∧ OwnR wr gr A2 c2 l 0 0 ∧ Below w.heap.size w wr
theorem byte_xor (y : UInt8) : ∃ z : UInt8, bits .xor .u8 (y.toNat : Int) 255 = (z.toNat : Int) := by
  have h := u8_xor_nat y.toNat 255 y.toNat_lt (by decide)
  refine ⟨UInt8.ofNat (y.toNat ^^^ 255), ?_⟩
  have h2 : y.toNat ^^^ 255 < 256 := Nat.xor_lt_two_pow (n := 8) y.toNat_lt (by decide)
  rw [UInt8.toNat_ofNat', Nat.mod_eq_of_lt h2]
  exact h

/-- What the reader hands in each kind: the text T, the number V, its place a1, its error E. -/
def RelK (x : Wd) (l : List UInt8) (at_ : Nat) (e : Int) (V a1 : Nat) (E : Int) (T : List UInt8) : Prop :=
  (x.kind = 0 ∨ x.kind = 1 → numS l at_ e = (V, a1, E)) ∧ (x.kind = 2 → leNum (rawS l at_ e 8).1 = V ∧ (rawS l at_ e 8).2.1 = a1 ∧ (rawS l at_ e 8).2.2 = E) ∧ (x.kind = 3 → textS l at_ e x.n = (T, a1, E)) ∧
  (x.kind = 4 → rawS l at_ e x.n = (T, a1, E)) ∧ (x.kind = 5 → countS l at_ e x.n = (V, a1, E)) ∧ (x.kind ≠ 0 → x.kind ≠ 1 → x.kind ≠ 2 → x.kind ≠ 3 → x.kind ≠ 4 → x.kind ≠ 5 → a1 = at_ ∧ E = e)
theorem RelK_no {x : Wd} {l : List UInt8} {at_ : Nat} {e : Int} (he : e ≠ 0) : RelK x l at_ e 0 at_ e [] :=
  ⟨fun _ => numS_no he, fun _ => fixS_no he, fun _ => textS_no he, fun _ => rawS_no he, fun _ => countS_no he, fun _ _ _ _ _ _ => ⟨rfl, rfl⟩⟩
theorem bytes_part {w : World} {B b off : Nat} {l : List UInt8} (h : Bytes w B (some ⟨b, off, none⟩) l) (k m : Nat) : Bytes w B (some ⟨b, off + k, none⟩) ((l.drop k).take m) := fun hp => by
  have hl : 0 < l.length := by rw [List.length_take, List.length_drop] at hp; omega
  obtain ⟨b', off', e, hb, hc⟩ := h hl
  injection e with e
  injection e with e1 e2
  subst e1 e2
  refine ⟨_, _, rfl, hb, fun j y hy => ?_⟩
  have hj : j < m := by
    rcases Nat.lt_or_ge j m with h | h
    · exact h
    · rw [List.getElem?_take, if_neg (by omega)] at hy; cases hy
  rw [List.getElem?_take, if_pos hj, List.getElem?_drop] at hy
  rw [Nat.add_assoc]
  exact hc _ _ hy
/-- Behind the document's answer. -/
def PJ (w W : World) (p q gr : Nat) (x : Wd) (A : Option Addr) (c : Nat) (l : List UInt8) (i at_ : Nat) (e : Int) (t : Value) : Prop :=
  ∃ (V N : Nat) (E : Int) (T : List UInt8), t = S8 T ∧ ST w W p q gr x A c l at_ e V N E ∧ RelK x l at_ 0 V (at_ + N) E T ∧ at_ + N ≤ i ∧ V < 18446744073709551616

set_option maxHeartbeats 32000000 in
theorem packReads_law (A0 : Option Addr) (n0 cap0 : Nat) (l : List UInt8) (A : Option Addr) (n cap : Nat) (L : List Wd) (w : World) (hA0 : Bytes w w.heap.size A0 l) (hn0 : l.length = n0) (hc0 : (A0 = none → cap0 = 0) ∧ n0 ≤ cap0 ∧ cap0 ≤ 9223372036854775807) (hA : Words w w.heap.size A L) (hn : L.length = n) :
    Calls Try.prog 8 #[.slice A0 n0 cap0, .slice A n cap] w fun e w' => e = .returned (.bool true) ∧ Below w.heap.size w w' := by
  go_enter Try.func8, Try.ntmps8
  go_wp2_with fail
  refine (awake02_any w).mono ?_
  rintro e w1 ⟨rfl, hB⟩
  have HB := Lib.hid hB
  clear hB
  by_cases h300 : 300 < n0
  · go_wp2_with fail
    go_ret
    exact ⟨rfl, HB.out⟩
  have h300' : (n0 : Int) ≤ 300 := by omega
  go_wp2_with fail
  refine (some_any A n cap L w1 (hA.below HB.out HB.out.size) hn).mono ?_
  rintro e w' ⟨rfl, h⟩
  rcases h with rfl | ⟨rfl, hs⟩
  · go_wp2_with fail
    go_ret
    exact ⟨rfl, HB.out⟩
  have Hs := Lib.hid hs
  clear hs
  have h60 := Hs.out.1
  have hb0 : Bytes (w'.alloc (.cells #[] 5)) (w'.alloc (.cells #[] 5)).heap.size A0 l := (hA0.below (HB.out.trans ((na (nr w') (.cells #[] 5)).mono HB.out.size))).more (Nat.le_trans HB.out.size (na (nr w') (.cells #[] 5)).size)
  subst hn0
  go_wp2_with (at_builtin; go_loud (refine wpList_append_bytes_form rfl (.tmp 25) (.tmp 26) rfl w'.heap.size (.slice (some ⟨w'.heap.size, 0, none⟩) 0 0) [] rfl (Own.empty _ _ (Nat.le_refl _)) _ A0 cap0 l rfl hb0 (by simp; omega) (na (nr w') _).size ?_)
               intro A3 c3 w3 hown hg hat
               rw [List.nil_append] at hown hat ⊢
               have hb2 : Below w'.heap.size w' w3 := (na (nr w') _).grown hg (na (nr w') _).size (fun q e => by simp [Value.ownBlock] at e; omega)
               have H3 := Lib.hid (And.intro hown (HB.out.trans (hb2.mono HB.out.size)))
               have hs3 := Lib.hid HB.out.size
               clear hown hat hg hb2 HB hb0)
  refine (newReader_far A3 l.length c3 l w3 H3.out.1.bytes.1 rfl (by omega) (own_nil H3.out.1)).mono ?_
  rintro e w4 ⟨gr, A4, c4, rfl, hg4, hR4, hb4, hfar⟩
  have h2 : Hid (∃ l' : List UInt8, l'.length = l.length ∧ Own w4 w.heap.size (.slice A3 l.length c3) l' ∧ PR w w4 gr A4 c4 l 0 0) := ⟨l, rfl, (H3.out.1.rebase hs3.out).new_ hb4, hR4, H3.out.2.trans (hb4.mono H3.out.2.size)⟩
  have hg : Hid (w.heap.size ≤ gr ∧ w3.heap.size ≤ gr ∧ (∀ q, A3 = some ⟨q, 0, none⟩ → q < w3.heap.size)) := ⟨Nat.le_trans H3.out.2.size hg4, hg4, fun q hq => by
    subst hq
    exact (World.ownsRow.lt H3.out.1 q rfl).2⟩
  have Hfar := Lib.hid hfar
  have Hc0 := Lib.hid hc0
  clear hfar hb4 hR4 hg4 H3 hs3 hc0
  generalize w3.heap.size = S3 at *
  generalize hnb : l.length = nb at *
  have Hnb := Lib.hid hnb
  clear hnb
  go_wp2_with fail
  go_loopg [7] nb (fun g i wr => g ≤ nb ∧ i = .int .i64 ((nb - g : Nat) : Int) ∧ Hid (∃ l' : List UInt8, l'.length = nb ∧ Own wr w.heap.size (.slice A3 nb c3) l' ∧ PR w wr gr A4 c4 l 0 0))
  case atStart => exact ⟨Nat.le_refl _, by simp, h2⟩
  case round =>
    obtain ⟨hkb, rfl, hR⟩ := hrel
    obtain ⟨i, hii⟩ : ∃ i, nb - gk = i := ⟨_, rfl⟩
    rw [hii] at ⊢
    obtain ⟨l', hl', ho, hr, hb⟩ := hR.out
    by_cases hk1 : gk = 0
    · obtain rfl : i = nb := by omega
      have h3 : Hid (PR w wr gr A4 c4 l 0 0) := ⟨hr, hb⟩
      have hgr : Hid (w.heap.size ≤ gr) := hg.out.1
      clear hR ho hr hb hg h2 Hfar hl'
      go_wp2_with fail
      go_loopg [8, 9, 10] n (fun g a ev i wr => g ≤ n ∧ i = .int .i64 ((n - g : Nat) : Int) ∧ ∃ at_ : Nat, ∃ e : Int, a = .int .i64 at_ ∧ ev = .int .i64 e ∧ Hid (PR w wr gr A4 c4 l at_ e))
      case atStart => exact ⟨Nat.le_refl _, by simp, 0, 0, rfl, rfl, h3⟩
      case round =>
        obtain ⟨hkc, rfl, at_, e, rfl, rfl, hR⟩ := hrel
        obtain ⟨m, hmm⟩ : ∃ m, n - gk = m := ⟨_, rfl⟩
        rw [hmm] at ⊢
        obtain ⟨hr, hb⟩ := hR.out
        by_cases hk2 : gk = 0
        · obtain rfl : m = n := by omega
          clear hR
          have HE := Lib.hid hb
          clear hb hr
          go_wp2_with fail
          go_ret
          exact ⟨rfl, HE.out⟩
        · have hlt : m < n := by omega
          have hgi : Hid (n - (gk - 1) = m + 1) := show _ = _ by omega
          obtain ⟨b, off, x, rfl, hbg, hx, ⟨k0, k1, k2, k3⟩, hok⟩ := (hA.below hb hb.size).at_ (k := m) (by omega)
          have hXC := XC.made wr x 33
          have hr1 := hr.new_ (na (nr wr) (.cells #[.int .i64 x.kind, .int .i64 x.n, .int .u64 x.v, S8 x.s] 33))
          have hb1 := hb.trans ((na (nr wr) (.cells #[.int .i64 x.kind, .int .i64 x.n, .int .u64 x.v, S8 x.s] 33)).mono hb.size)
          have hp : Hid (wr.heap.size < (wr.alloc (.cells #[.int .i64 x.kind, .int .i64 x.n, .int .u64 x.v, S8 x.s] 33)).heap.size ∧ gr < wr.heap.size) := ⟨by simp, hr.lt⟩
          clear hR hr hx
          go_upto_region 17 with fail
          have HR := Lib.hid (And.intro hr1 hb1)
          have hale := hr1.at_le
          clear hr1 hb1 hb k0 k1 k2 k3 hA hbg
          generalize (wr.alloc (.cells #[.int .i64 x.kind, .int .i64 x.n, .int .u64 x.v, S8 x.s] 33)) = W1 at *
          generalize wr.heap.size = p at *
          -- THE ROUND
          have HS : Hid (ST w (W1.alloc (.cells #[.int .u64 0, .int .i64 0, .int .i64 0] 47)) p W1.heap.size gr x A4 c4 l at_ e 0 0 0) :=
            ⟨GS.made W1 47, hXC.keep ((na (nr W1) _).block p hp.out.1), HR.out.1.new_ (na (nr W1) _), HR.out.2.trans ((na (nr W1) _).mono HR.out.2.size), hp.out.2, hp.out.1, by simp, hgr.out⟩
          have hil : at_ ≤ i := by have := Hnb.out; omega
          have HLL : Hid (l.length ≤ 140737488355328) := show _ ≤ _ by have := Hnb.out; omega
          have HOK := Lib.hid hok
          go_upto_region 19 with fail
          clear HR hp hXC hale hok
          generalize (W1.alloc (.cells #[.int .u64 0, .int .i64 0, .int .i64 0] 47)) = W2 at *
          generalize W1.heap.size = q at *
          obtain ⟨g0, g1, g2, f0, f1, f2⟩ := HS.out.gs
          obtain ⟨x0, x1, x2, x3⟩ := HS.out.xc
          have hA0W := Lib.hid ((hA0.below HS.out.below).more HS.out.below.size)
          go_upto_block 4 with fail
          go_cut [13] from 44 to 242 (fun s13 wx => Hid (PJ w wx p q gr x A4 c4 l i at_ e s13))
          case first =>
            by_cases e0 : x.kind = 0
            · as_aux_lemma =>
                rw [e0] at x0
                go_wp2_with fail
                refine (rgetnum_any A0 i cap0 l at_ W2 hA0W.out Hnb.out (by omega) (by omega)).mono ?_
                rintro e' W3 ⟨rfl, hb3⟩
                have HS3 := Lib.hid (HS.out.later hb3)
                clear g0 g1 g2 f0 f1 f2 x0 x1 x2 x3
                obtain ⟨⟨V, N, E⟩, hg⟩ : ∃ r, getNum (l.drop at_) = r := ⟨_, rfl⟩
                rw [hg]
                simp only
                have Hf := Lib.hid (getNum_fits hg (by have := Hnb.out; omega))
                have Hg := Lib.hid hg
                clear hg hb3
                obtain ⟨g0, g1, g2, f0, f1, f2⟩ := HS3.out.gs
                obtain ⟨x0, x1, x2, x3⟩ := HS3.out.xc
                rw [e0] at x0
                go_wp2_with fail
                go_meet
                case rel => exact ⟨V, N, E, [], rfl, HS3.out.store V N E, ⟨fun _ => numS_ok Hg.out, fun h => absurd h (by omega), fun h => absurd h (by omega), fun h => absurd h (by omega), fun h => absurd h (by omega), fun h0 h1 h2 h3 h4 h5 => absurd e0 h0⟩, by have := Hf.out.1; have := Hnb.out; omega, Hf.out.2.1⟩
            have b0 : (x.kind == 0) = false := by rw [beq_eq_false_iff_ne]; exact e0
            by_cases e1 : x.kind = 1
            · as_aux_lemma =>
                rw [e1] at x0
                go_wp2_with fail
                refine (rgetnum_any A0 i cap0 l at_ W2 hA0W.out Hnb.out (by omega) (by omega)).mono ?_
                rintro e' W3 ⟨rfl, hb3⟩
                have HS3 := Lib.hid (HS.out.later hb3)
                clear g0 g1 g2 f0 f1 f2 x0 x1 x2 x3
                obtain ⟨⟨V, N, E⟩, hg⟩ : ∃ r, getNum (l.drop at_) = r := ⟨_, rfl⟩
                rw [hg]
                simp only
                have Hf := Lib.hid (getNum_fits hg (by have := Hnb.out; omega))
                have Hg := Lib.hid hg
                clear hg hb3
                obtain ⟨g0, g1, g2, f0, f1, f2⟩ := HS3.out.gs
                obtain ⟨x0, x1, x2, x3⟩ := HS3.out.xc
                rw [e1] at x0
                go_wp2_with fail
                go_meet
                case rel => exact ⟨V, N, E, [], rfl, HS3.out.store V N E, ⟨fun _ => numS_ok Hg.out, fun h => absurd h (by omega), fun h => absurd h (by omega), fun h => absurd h (by omega), fun h => absurd h (by omega), fun h0 h1 h2 h3 h4 h5 => absurd e1 h1⟩, by have := Hf.out.1; have := Hnb.out; omega, Hf.out.2.1⟩
            have b1 : (x.kind == 1) = false := by rw [beq_eq_false_iff_ne]; exact e1
            by_cases e2 : x.kind = 2
            · as_aux_lemma =>
                rw [e2] at x0
                go_wp2_with fail
                refine (rgetfix_any A0 i cap0 l at_ W2 hA0W.out Hnb.out (by omega) (by omega)).mono ?_
                rintro e' W3 ⟨rfl, hb3⟩
                have HS3 := Lib.hid (HS.out.later hb3)
                clear g0 g1 g2 f0 f1 f2 x0 x1 x2 x3
                obtain ⟨⟨V, N, E⟩, hg⟩ : ∃ r, getFix (l.drop at_) = r := ⟨_, rfl⟩
                rw [hg]
                simp only
                have Hf := Lib.hid (getFix_fits hg (by have := Hnb.out; omega))
                have Hg := Lib.hid hg
                clear hg hb3
                obtain ⟨g0, g1, g2, f0, f1, f2⟩ := HS3.out.gs
                obtain ⟨x0, x1, x2, x3⟩ := HS3.out.xc
                rw [e2] at x0
                go_wp2_with fail
                go_meet
                case rel => exact ⟨V, N, E, [], rfl, HS3.out.store V N E, ⟨fun h => absurd h (by omega), fun _ => fixS_ok Hg.out, fun h => absurd h (by omega), fun h => absurd h (by omega), fun h => absurd h (by omega), fun h0 h1 h2 h3 h4 h5 => absurd e2 h2⟩, by have := Hf.out.1; have := Hnb.out; omega, Hf.out.2⟩
            have b2 : (x.kind == 2) = false := by rw [beq_eq_false_iff_ne]; exact e2
            by_cases e3 : x.kind = 3
            · as_aux_lemma =>
                rw [e3] at x0
                go_wp2_with fail
                refine (rgetnum_any A0 i cap0 l at_ W2 hA0W.out Hnb.out (by omega) (by omega)).mono ?_
                rintro e' W3 ⟨rfl, hb3⟩
                have HS3 := Lib.hid (HS.out.later hb3)
                clear g0 g1 g2 f0 f1 f2 x0 x1 x2 x3
                obtain ⟨⟨V, N, E⟩, hg⟩ : ∃ r, getNum (l.drop at_) = r := ⟨_, rfl⟩
                rw [hg]
                simp only
                have Hf := Lib.hid (getNum_fits hg (by have := Hnb.out; omega))
                have Hg := Lib.hid hg
                clear hg hb3
                obtain ⟨g0, g1, g2, f0, f1, f2⟩ := HS3.out.gs
                obtain ⟨x0, x1, x2, x3⟩ := HS3.out.xc
                rw [e3] at x0
                have HS4 := Lib.hid (HS3.out.store V N E)
                go_upto_region 28 with fail
                generalize ((W3.setCell ⟨q, 0, none⟩ (.int .u64 (V : Nat))).setCell ⟨q, 1, none⟩ (.int .i64 (N : Nat))).setCell ⟨q, 2, none⟩ (.int .i64 E) = W4 at *
                clear g0 g1 g2 f0 f1 f2 x0 x1 x2 x3
                by_cases hE : E = 0
                · as_aux_lemma =>
                    subst hE
                    by_cases hn : x.n < 0
                    · as_aux_lemma =>
                        obtain ⟨g0, g1, g2, f0, f1, f2⟩ := HS4.out.gs
                        obtain ⟨x0, x1, x2, x3⟩ := HS4.out.xc
                        rw [e3] at x0
                        go_wp2_with fail
                        go_meet
                        case rel => exact ⟨0, 0, 4, [], rfl, HS4.out.store 0 0 4, ⟨fun h => absurd h (by omega), fun h => absurd h (by omega), fun _ => textS_large Hg.out (.inl hn), fun h => absurd h (by omega), fun h => absurd h (by omega), fun h0 h1 h2 h3 h4 h5 => absurd e3 h3⟩, by omega, by decide⟩
                    have hn' : (0 : Int) ≤ x.n := by omega
                    have hxn : x.n ≤ 9223372036854775807 := HOK.out.2.1.2
                    by_cases hv : x.n < (V : Int)
                    · as_aux_lemma =>
                        obtain ⟨g0, g1, g2, f0, f1, f2⟩ := HS4.out.gs
                        obtain ⟨x0, x1, x2, x3⟩ := HS4.out.xc
                        rw [e3] at x0
                        go_wp2_with fail
                        go_meet
                        case rel => exact ⟨0, 0, 4, [], rfl, HS4.out.store 0 0 4, ⟨fun h => absurd h (by omega), fun h => absurd h (by omega), fun _ => textS_large Hg.out (.inr hv), fun h => absurd h (by omega), fun h => absurd h (by omega), fun h0 h1 h2 h3 h4 h5 => absurd e3 h3⟩, by omega, by decide⟩
                    have hv' : (V : Int) ≤ x.n := by omega
                    have hfN : at_ + N ≤ i := by have := Hf.out.1; have := Hnb.out; omega
                    have hfi : (at_ : Int) + (N : Int) ≤ (i : Int) := by omega
                    by_cases hs : i - (at_ + N) < V
                    · as_aux_lemma =>
                        have hs' : (i : Int) - (at_ : Int) - (N : Int) < (V : Int) := by omega
                        obtain ⟨g0, g1, g2, f0, f1, f2⟩ := HS4.out.gs
                        obtain ⟨x0, x1, x2, x3⟩ := HS4.out.xc
                        rw [e3] at x0
                        go_wp2_with fail
                        go_meet
                        case rel => exact ⟨0, 0, 2, [], rfl, HS4.out.store 0 0 2, ⟨fun h => absurd h (by omega), fun h => absurd h (by omega), fun _ => textS_short Hg.out hn' hv' (by rw [Hnb.out]; exact hs), fun h => absurd h (by omega), fun h => absurd h (by omega), fun h0 h1 h2 h3 h4 h5 => absurd e3 h3⟩, by omega, by decide⟩
                    have hs' : (V : Int) ≤ (i : Int) - (at_ : Int) - (N : Int) := by omega
                    have hVl : (V : Int) ≤ 300 := by omega
                    have hcp := Hc0.out
                    have hci : (i : Int) ≤ (cap0 : Int) := by omega
                    clear hcp
                    have hST : ST w (W4.setCell ⟨q, 1, none⟩ (.int .i64 ((N : Int) + (V : Int)))) p q gr x A4 c4 l at_ e V (N + V) 0 := by have := HS4.out.storeN (N + V); rwa [Int.natCast_add] at this
                    have HST := Lib.hid hST
                    clear hST
                    have hR3 : textS l at_ 0 x.n = ((l.drop (at_ + N)).take V, at_ + (N + V), 0) := by have := textS_ok Hg.out hn' hv' (by rw [Hnb.out]; omega); rwa [Nat.add_assoc] at this
                    have hlT : ((l.drop (at_ + N)).take V).length = V := by rw [List.length_take, List.length_drop, Hnb.out]; omega
                    obtain ⟨D, hD⟩ : ∃ D, at_ + N = D := ⟨_, rfl⟩
                    have hai : (at_ : Int) + (N : Int) = (D : Int) := by omega
                    have hDi : (D : Int) + (V : Int) ≤ (i : Int) := by omega
                    have hD3 : (D : Int) ≤ 300 := by omega
                    rw [hD] at hR3 hlT
                    have HD := Lib.hid (And.intro hD hfi)
                    have HR3 := Lib.hid hR3
                    clear hR3 hfi
                    by_cases hV0 : V = 0
                    · as_aux_lemma =>
                        have hT0 : (l.drop D).take V = [] := by rw [hV0]; rfl
                        have hT0 := Lib.hid hT0
                        have r1 := fun A' c' => run_str W4 0 A' 0 c' [] (Bytes.nil_ A') rfl
                        subst hV0
                        clear hlT hD
                        by_cases hce : cap0 = D
                        all_goals (try subst hce)
                        all_goals (
                          obtain ⟨g0, g1, g2, f0, f1, f2⟩ := HS4.out.gs
                          obtain ⟨x0, x1, x2, x3⟩ := HS4.out.xc
                          rw [e3] at x0
                          go_wp2_with fail
                          go_meet
                          case rel => exact ⟨0, N + 0, 0, [], rfl, HST.out, ⟨fun h => absurd h (by omega), fun h => absurd h (by omega), fun _ => by have := HR3.out; rwa [hT0.out] at this, fun h => absurd h (by omega), fun h => absurd h (by omega), fun h0 h1 h2 h3 h4 h5 => absurd e3 h3⟩, by have := HD.out.1; omega, by decide⟩)
                    · as_aux_lemma =>
                        have hi0 : 0 < l.length := by rw [Hnb.out]; omega
                        obtain ⟨b0, off0, rfl, _, _⟩ := hA0 hi0
                        have hce : ¬ (cap0 = D) := by omega
                        have r1 := run_str W4 _ (some ⟨b0, off0 + D, none⟩) V (cap0 - D) ((l.drop D).take V) (bytes_part (hA0.below HS4.out.below) _ _) hlT
                        generalize (l.drop D).take V = T at *
                        clear hlT hi0 hD
                        obtain ⟨g0, g1, g2, f0, f1, f2⟩ := HS4.out.gs
                        obtain ⟨x0, x1, x2, x3⟩ := HS4.out.xc
                        rw [e3] at x0
                        go_wp2_with fail
                        go_meet
                        case rel => exact ⟨V, N + V, 0, T, rfl, HST.out, ⟨fun h => absurd h (by omega), fun h => absurd h (by omega), fun _ => HR3.out, fun h => absurd h (by omega), fun h => absurd h (by omega), fun h0 h1 h2 h3 h4 h5 => absurd e3 h3⟩, by have := HD.out.1; omega, by omega⟩
                · as_aux_lemma =>
                    obtain ⟨g0, g1, g2, f0, f1, f2⟩ := HS4.out.gs
                    obtain ⟨x0, x1, x2, x3⟩ := HS4.out.xc
                    rw [e3] at x0
                    have hEb : (E == 0) = false := by rw [beq_eq_false_iff_ne]; exact hE
                    obtain ⟨hV0, hN0⟩ := Hf.out.2.2 hE
                    go_wp2_with fail
                    go_meet
                    case rel => exact ⟨V, N, E, [], rfl, HS4.out, ⟨fun h => absurd h (by omega), fun h => absurd h (by omega), fun _ => by rw [hN0]; exact textS_err Hg.out hE, fun h => absurd h (by omega), fun h => absurd h (by omega), fun h0 h1 h2 h3 h4 h5 => absurd e3 h3⟩, by have := Hf.out.1; have := Hnb.out; omega, Hf.out.2.1⟩
            have b3 : (x.kind == 3) = false := by rw [beq_eq_false_iff_ne]; exact e3
            by_cases e5 : x.kind = 5
            · as_aux_lemma =>
                rw [e5] at x0
                go_wp2_with fail
                refine (rgetnum_any A0 i cap0 l at_ W2 hA0W.out Hnb.out (by omega) (by omega)).mono ?_
                rintro e' W3 ⟨rfl, hb3⟩
                have HS3 := Lib.hid (HS.out.later hb3)
                clear g0 g1 g2 f0 f1 f2 x0 x1 x2 x3
                obtain ⟨⟨V, N, E⟩, hg⟩ : ∃ r, getNum (l.drop at_) = r := ⟨_, rfl⟩
                rw [hg]
                simp only
                have Hf := Lib.hid (getNum_fits hg (by have := Hnb.out; omega))
                have Hg := Lib.hid hg
                clear hg hb3
                obtain ⟨g0, g1, g2, f0, f1, f2⟩ := HS3.out.gs
                obtain ⟨x0, x1, x2, x3⟩ := HS3.out.xc
                rw [e5] at x0
                have HS4 := Lib.hid (HS3.out.store V N E)
                go_upto_region 28 with fail
                generalize ((W3.setCell ⟨q, 0, none⟩ (.int .u64 (V : Nat))).setCell ⟨q, 1, none⟩ (.int .i64 (N : Nat))).setCell ⟨q, 2, none⟩ (.int .i64 E) = W4 at *
                clear g0 g1 g2 f0 f1 f2 x0 x1 x2 x3
                by_cases hE : E = 0
                · as_aux_lemma =>
                    subst hE
                    by_cases hn : x.n < 0
                    · as_aux_lemma =>
                        obtain ⟨g0, g1, g2, f0, f1, f2⟩ := HS4.out.gs
                        obtain ⟨x0, x1, x2, x3⟩ := HS4.out.xc
                        rw [e5] at x0
                        go_wp2_with fail
                        go_meet
                        case rel => exact ⟨0, 0, 4, [], rfl, HS4.out.store 0 0 4, ⟨fun h => absurd h (by omega), fun h => absurd h (by omega), fun h => absurd h (by omega), fun h => absurd h (by omega), fun _ => countS_large Hg.out (.inl hn), fun h0 h1 h2 h3 h4 h5 => absurd e5 h5⟩, by omega, by decide⟩
                    have hn' : (0 : Int) ≤ x.n := by omega
                    have hxn : x.n ≤ 9223372036854775807 := HOK.out.2.1.2
                    by_cases hv : x.n < (V : Int)
                    · as_aux_lemma =>
                        obtain ⟨g0, g1, g2, f0, f1, f2⟩ := HS4.out.gs
                        obtain ⟨x0, x1, x2, x3⟩ := HS4.out.xc
                        rw [e5] at x0
                        go_wp2_with fail
                        go_meet
                        case rel => exact ⟨0, 0, 4, [], rfl, HS4.out.store 0 0 4, ⟨fun h => absurd h (by omega), fun h => absurd h (by omega), fun h => absurd h (by omega), fun h => absurd h (by omega), fun _ => countS_large Hg.out (.inr hv), fun h0 h1 h2 h3 h4 h5 => absurd e5 h5⟩, by omega, by decide⟩
                    have hv' : (V : Int) ≤ x.n := by omega
                    obtain ⟨g0, g1, g2, f0, f1, f2⟩ := HS4.out.gs
                    obtain ⟨x0, x1, x2, x3⟩ := HS4.out.xc
                    rw [e5] at x0
                    go_wp2_with fail
                    go_meet
                    case rel => exact ⟨V, N, 0, [], rfl, HS4.out, ⟨fun h => absurd h (by omega), fun h => absurd h (by omega), fun h => absurd h (by omega), fun h => absurd h (by omega), fun _ => countS_ok Hg.out hn' hv', fun h0 h1 h2 h3 h4 h5 => absurd e5 h5⟩, by have := Hf.out.1; have := Hnb.out; omega, Hf.out.2.1⟩
                · as_aux_lemma =>
                    obtain ⟨g0, g1, g2, f0, f1, f2⟩ := HS4.out.gs
                    obtain ⟨x0, x1, x2, x3⟩ := HS4.out.xc
                    rw [e5] at x0
                    have hEb : (E == 0) = false := by rw [beq_eq_false_iff_ne]; exact hE
                    obtain ⟨hV0, hN0⟩ := Hf.out.2.2 hE
                    go_wp2_with fail
                    go_meet
                    case rel => exact ⟨V, N, E, [], rfl, HS4.out, ⟨fun h => absurd h (by omega), fun h => absurd h (by omega), fun h => absurd h (by omega), fun h => absurd h (by omega), fun _ => countS_err Hg.out hE, fun h0 h1 h2 h3 h4 h5 => absurd e5 h5⟩, by have := Hf.out.1; have := Hnb.out; omega, Hf.out.2.1⟩
            have b5 : (x.kind == 5) = false := by rw [beq_eq_false_iff_ne]; exact e5
            by_cases e4 : x.kind = 4
            · as_aux_lemma =>
                rw [e4] at x0
                by_cases hn : x.n < 0
                · as_aux_lemma =>
                    go_wp2_with fail
                    go_meet
                    case rel => exact ⟨0, 0, 1, [], rfl, HS.out.storeE 1, ⟨fun h => absurd h (by omega), fun h => absurd h (by omega), fun h => absurd h (by omega), fun _ => rawS_neg hn, fun h => absurd h (by omega), fun h0 h1 h2 h3 h4 h5 => absurd e4 h4⟩, by omega, by decide⟩
                obtain ⟨nn, hnn⟩ := Int.eq_ofNat_of_zero_le (show 0 ≤ x.n by omega)
                have hn' : (0 : Int) ≤ x.n := by omega
                by_cases hs : i - at_ < nn
                · as_aux_lemma =>
                    have hs' : (i : Int) - (at_ : Int) < x.n := by omega
                    go_wp2_with fail
                    go_meet
                    case rel => exact ⟨0, 0, 2, [], rfl, HS.out.storeE 2, ⟨fun h => absurd h (by omega), fun h => absurd h (by omega), fun h => absurd h (by omega), fun _ => rawS_short hn' (by rw [Hnb.out]; omega), fun h => absurd h (by omega), fun h0 h1 h2 h3 h4 h5 => absurd e4 h4⟩, by omega, by decide⟩
                have hs' : x.n ≤ (i : Int) - (at_ : Int) := by omega
                have hcp := Hc0.out
                have hci : (i : Int) ≤ (cap0 : Int) := by omega
                clear hcp
                have hST : ST w (W2.setCell ⟨q, 1, none⟩ (.int .i64 x.n)) p q gr x A4 c4 l at_ e 0 nn 0 := by rw [hnn]; exact HS.out.storeN nn
                have HST := Lib.hid hST
                clear hST
                have HR4 : Hid (rawS l at_ 0 x.n = ((l.drop at_).take nn, at_ + nn, 0)) := by rw [hnn]; exact rawS_ok nn (by rw [Hnb.out]; omega)
                have hlT : ((l.drop at_).take nn).length = nn := by rw [List.length_take, List.length_drop, Hnb.out]; omega
                have HN := Lib.hid hnn
                rw [hnn] at x1 hs' hn' HST
                clear hnn hn
                by_cases hV0 : nn = 0
                · as_aux_lemma =>
                    have hT0 : (l.drop at_).take nn = [] := by rw [hV0]; rfl
                    have hT0 := Lib.hid hT0
                    have r1 := fun A' c' => run_str W2 0 A' 0 c' [] (Bytes.nil_ A') rfl
                    subst hV0
                    clear hlT
                    by_cases hce : cap0 = at_
                    all_goals (try subst hce)
                    all_goals (cases A0)
                    all_goals (
                      go_wp2_with fail
                      go_meet
                      case rel => exact ⟨0, 0, 0, [], rfl, HST.out, ⟨fun h => absurd h (by omega), fun h => absurd h (by omega), fun h => absurd h (by omega), fun _ => by have := HR4.out; rwa [hT0.out] at this, fun h => absurd h (by omega), fun h0 h1 h2 h3 h4 h5 => absurd e4 h4⟩, by omega, by decide⟩)
                · as_aux_lemma =>
                    have hi0 : 0 < l.length := by rw [Hnb.out]; omega
                    obtain ⟨b0, off0, rfl, _, _⟩ := hA0 hi0
                    have hce : ¬ (cap0 = at_) := by omega
                    have r1 := run_str W2 _ (some ⟨b0, off0 + at_, none⟩) nn (cap0 - at_) ((l.drop at_).take nn) (bytes_part (hA0.below HS.out.below) _ _) hlT
                    generalize (l.drop at_).take nn = T at *
                    clear hlT hi0
                    go_wp2_with fail
                    go_meet
                    case rel => exact ⟨0, nn, 0, T, rfl, HST.out, ⟨fun h => absurd h (by omega), fun h => absurd h (by omega), fun h => absurd h (by omega), fun _ => HR4.out, fun h => absurd h (by omega), fun h0 h1 h2 h3 h4 h5 => absurd e4 h4⟩, by omega, by decide⟩
            have b4 : (x.kind == 4) = false := by rw [beq_eq_false_iff_ne]; exact e4
            go_wp2_with fail
            go_meet
            case rel => exact ⟨0, 0, 0, [], rfl, HS.out, ⟨fun h => absurd h (by omega), fun h => absurd h (by omega), fun h => absurd h (by omega), fun h => absurd h (by omega), fun h => absurd h (by omega), fun _ _ _ _ _ _ => ⟨rfl, rfl⟩⟩, by omega, by decide⟩
          case rest =>
            obtain ⟨V5, N5, E5, T5, rfl, HS5, HK, hfit⟩ := hcut.out
            have HS5 := Lib.hid HS5
            have HK := Lib.hid HK
            clear HS hcut hA0W hA0 g0 g1 g2 f0 f1 f2 x0 x1 x2 x3
            generalize wc = W5 at *
            obtain ⟨g0, g1, g2, f0, f1, f2⟩ := HS5.out.gs
            obtain ⟨x0, x1, x2, x3⟩ := HS5.out.xc
            by_cases he : e = 0
            · as_aux_lemma =>
                subst he
                obtain ⟨a1, ha1⟩ : ∃ a1 : Nat, at_ + N5 = a1 := ⟨_, rfl⟩
                rw [ha1] at HK
                have hai : (at_ : Int) + (N5 : Int) = (a1 : Int) := by omega
                have hV5 := hfit.2
                have hfit := Lib.hid hfit
                clear ha1
                go_upto_block 5 with fail
                go_cut [14] from 44 to 242 (fun s14 wx => s14 = .bool true ∧ Hid (ST w wx p q gr x A4 c4 l a1 E5 V5 N5 E5))
                case first =>
                  by_cases e0 : x.kind = 0
                  · as_aux_lemma =>
                      rw [e0] at x0
                      have hrd := Lib.hid (HK.out.1 (.inl e0))
                      go_wp2_with fail
                      have HSd := Lib.hid (HS5.out.later (nd (nr W5)))
                      go_region_held3 (fun w' => w'.cell? ⟨q, 0, none⟩ = some (.int .u64 (V5 : Nat))) (exact g0) (first | (go_at_call 32; refine (rnum_s gr A4 c4 l _ _ _ HSd.out.rd HLL.out).mono ?_; rintro e' W6 ⟨rfl, hR2, hO⟩; rw [hrd.out] at hR2 ⊢; simp only at hR2 ⊢; have HT := Lib.hid (HSd.out.read hO.turn hR2); have g0 := HT.out.gs.c0; have x1 := HT.out.xc.2.1; clear hR2 hO))
                      go_wp2_with fail
                      go_meet
                      case rel => exact ⟨rfl, HT.out⟩
                  have b0 : (x.kind == 0) = false := by rw [beq_eq_false_iff_ne]; exact e0
                  by_cases e1 : x.kind = 1
                  · as_aux_lemma =>
                      rw [e1] at x0
                      have hrd := Lib.hid (HK.out.1 (.inr e1))
                      go_wp2_with fail
                      have HSd := Lib.hid (HS5.out.later (nd (nr W5)))
                      go_region_held3 (fun w' => w'.cell? ⟨q, 0, none⟩ = some (.int .u64 (V5 : Nat))) (exact g0) (first | (go_at_call 52; refine (rint_any gr A4 c4 l _ _ _ HSd.out.rd HLL.out).mono ?_; rintro e' W6 ⟨rfl, hR2, hO⟩; rw [hrd.out] at hR2 ⊢; simp only at hR2 ⊢; have HT := Lib.hid (HSd.out.read hO.turn hR2); have g0 := HT.out.gs.c0; have x1 := HT.out.xc.2.1; clear hR2 hO) | (go_at_call 53; refine (rzag_any V5 _ hV5).mono ?_; rintro e' w' ⟨rfl, rfl⟩))
                      go_wp2_with fail
                      go_meet
                      case rel => exact ⟨rfl, HT.out⟩
                  have b1 : (x.kind == 1) = false := by rw [beq_eq_false_iff_ne]; exact e1
                  by_cases e2 : x.kind = 2
                  · as_aux_lemma =>
                      rw [e2] at x0
                      have hrd := Lib.hid (HK.out.2.1 e2)
                      go_wp2_with fail
                      have HSd := Lib.hid (HS5.out.later (nd (nr W5)))
                      go_region_held3 (fun w' => w'.cell? ⟨q, 0, none⟩ = some (.int .u64 (V5 : Nat))) (exact g0) (first | (go_at_call 54; refine (rfix_any gr A4 c4 l _ _ _ HSd.out.rd HLL.out).mono ?_; rintro e' W6 ⟨rfl, hR2, hO⟩; rw [hrd.out.2.1, hrd.out.2.2] at hR2; rw [hrd.out.1]; have HT := Lib.hid (HSd.out.read hO hR2); have g0 := HT.out.gs.c0; have x1 := HT.out.xc.2.1; clear hR2 hO))
                      go_wp2_with fail
                      go_meet
                      case rel => exact ⟨rfl, HT.out⟩
                  have b2 : (x.kind == 2) = false := by rw [beq_eq_false_iff_ne]; exact e2
                  by_cases e3 : x.kind = 3
                  · as_aux_lemma =>
                      rw [e3] at x0
                      have hrd := Lib.hid (HK.out.2.2.1 e3)
                      go_wp2_with fail
                      refine (rtext_any gr A4 c4 l _ _ x.n W5 HS5.out.rd HLL.out HOK.out.2.1.1 HOK.out.2.1.2).mono ?_
                      rintro e' W6 ⟨rfl, hR2, hO⟩
                      rw [hrd.out] at hR2 ⊢
                      simp only at hR2 ⊢
                      have HT := Lib.hid (HS5.out.read hO hR2)
                      clear hR2 hO
                      go_wp2_with fail
                      go_meet
                      case rel => exact ⟨rfl, HT.out⟩
                  have b3 : (x.kind == 3) = false := by rw [beq_eq_false_iff_ne]; exact e3
                  by_cases e4 : x.kind = 4
                  · as_aux_lemma =>
                      rw [e4] at x0
                      have hrd := Lib.hid (HK.out.2.2.2.1 e4)
                      go_wp2_with fail
                      refine (rraw_any gr A4 c4 l _ _ x.n W5 HS5.out.rd HLL.out HOK.out.2.1.1 HOK.out.2.1.2).mono ?_
                      rintro e' W6 ⟨A7, c7, rfl, hby, hR2, hO⟩
                      rw [hrd.out] at hby hR2 ⊢
                      simp only at hby hR2 ⊢
                      have r1 := run_str W6 _ A7 _ c7 _ hby rfl
                      have HT := Lib.hid (HS5.out.read hO hR2)
                      clear hR2 hO hby
                      go_wp2_with fail
                      go_meet
                      case rel => exact ⟨rfl, HT.out⟩
                  have b4 : (x.kind == 4) = false := by rw [beq_eq_false_iff_ne]; exact e4
                  by_cases e5 : x.kind = 5
                  · as_aux_lemma =>
                      rw [e5] at x0
                      have hrd := Lib.hid (HK.out.2.2.2.2.1 e5)
                      have hVm := countS_le l at_ 0 x.n HOK.out.2.1.2
                      rw [hrd.out] at hVm
                      simp only at hVm
                      have hwV : IntKind.u64.wrap (V5 : Int) = (V5 : Int) := by have e : ∀ z : Int, IntKind.u64.wrap z = z % 18446744073709551616 := fun z => (by simp [IntKind.wrap, IntKind.bits, IntKind.signed]); rw [e]; omega
                      go_wp2_with fail
                      have HSd := Lib.hid (HS5.out.later (nd (nr W5)))
                      go_region_held3 (fun w' => w'.cell? ⟨q, 0, none⟩ = some (.int .u64 (V5 : Nat)) ∧ w'.cell? ⟨p, 1, none⟩ = some (.int .i64 x.n)) (exact ⟨g0, x1⟩) (first | (go_at_call 57; refine (rcount_any gr A4 c4 l _ _ x.n _ HSd.out.rd HLL.out HOK.out.2.1.1 HOK.out.2.1.2).mono ?_; rintro e' W6 ⟨rfl, hR2, hO⟩; rw [hrd.out] at hR2 ⊢; simp only at hR2 ⊢; have HT := Lib.hid (HSd.out.read hO.turn hR2); have g0 := HT.out.gs.c0; have x1 := HT.out.xc.2.1; clear hR2 hO))
                      go_wp2_with fail
                      go_meet
                      case rel => exact ⟨rfl, HT.out⟩
                  have b5 : (x.kind == 5) = false := by rw [beq_eq_false_iff_ne]; exact e5
                  obtain ⟨ha, hee⟩ := HK.out.2.2.2.2.2 e0 e1 e2 e3 e4 e5
                  go_wp2_with fail
                  go_meet
                  case rel => exact ⟨rfl, by have h := HS5.out; rw [ha]; rw [hee] at h ⊢; exact h⟩
                case rest =>
                  as_aux_lemma =>
                    obtain ⟨rfl, HT⟩ := hcut
                    clear g0 g1 g2 f0 f1 f2 x0 x1 x2 x3
                    obtain ⟨g0, g1, g2, f0, f1, f2⟩ := HT.out.gs
                    go_wp2_with fail
                    refine (err_any gr A4 c4 l _ _ _ HT.out.rd).mono ?_
                    rintro e' w' ⟨rfl, rfl⟩
                    go_wp2_with fail
                    refine (at_any gr A4 c4 l _ _ _ HT.out.rd).mono ?_
                    rintro e' w' ⟨rfl, rfl⟩
                    go_wp2_with fail
                    refine (left_any gr A4 c4 l _ _ _ HT.out.rd HLL.out).mono ?_
                    rintro e' w' ⟨rfl, rfl⟩
                    rw [Int.natCast_sub HT.out.rd.at_le, Hnb.out]
                    go_wp2_with fail
                    go_roundg (gk - 1)
                    case measure => omega
                    case rel => exact ⟨by omega, by rw [hgi.out]; congr 1, _, _, rfl, rfl, HT.out.rd.drew, nD HT.out.below 1⟩
            · as_aux_lemma =>
                have hkb : (e != 0) = true := by rw [bne_iff_ne]; exact he
                have hkc : (e == 0) = false := by rw [beq_eq_false_iff_ne]; exact he
                have HS6 := Lib.hid (HS5.out.store 0 0 0)
                go_upto_region 45 with fail
                clear HS5 HK hfit g0 g1 g2 f0 f1 f2 x0 x1 x2 x3
                obtain ⟨V5, N5, E5, HS5, HK⟩ : ∃ V5 N5 : Nat, ∃ E5 : Int, Hid (ST w (((W5.setCell ⟨q, 0, none⟩ (.int .u64 (0 : Nat))).setCell ⟨q, 1, none⟩ (.int .i64 (0 : Nat))).setCell ⟨q, 2, none⟩ (.int .i64 0)) p q gr x A4 c4 l at_ e V5 N5 E5) ∧ Hid (RelK x l at_ e V5 at_ e [] ∧ V5 = 0) := ⟨0, 0, 0, HS6, RelK_no he, rfl⟩
                clear HS6
                have hV5 : V5 < 18446744073709551616 := by have := HK.out.2; omega
                have HK := Lib.hid HK.out.1
                simp only [Int.ofNat_zero] at HS5
                generalize (((W5.setCell ⟨q, 0, none⟩ (.int .u64 0)).setCell ⟨q, 1, none⟩ (.int .i64 0)).setCell ⟨q, 2, none⟩ (.int .i64 0)) = W5 at *
                have he := Lib.hid he
                obtain ⟨g0, g1, g2, f0, f1, f2⟩ := HS5.out.gs
                obtain ⟨x0, x1, x2, x3⟩ := HS5.out.xc
                go_upto_block 5 with fail
                go_cut [14] from 44 to 242 (fun s14 wx => s14 = .bool true ∧ Hid (ST w wx p q gr x A4 c4 l at_ e V5 N5 E5))
                case first =>
                  by_cases e0 : x.kind = 0
                  · as_aux_lemma =>
                      rw [e0] at x0
                      have hrd := Lib.hid (HK.out.1 (.inl e0))
                      go_wp2_with fail
                      have HSd := Lib.hid (HS5.out.later (nd (nr W5)))
                      go_region_held3 (fun w' => w'.cell? ⟨q, 0, none⟩ = some (.int .u64 (V5 : Nat))) (exact g0) (first | (go_at_call 32; refine (rnum_s gr A4 c4 l _ _ _ HSd.out.rd HLL.out).mono ?_; rintro e' W6 ⟨rfl, hR2, hO⟩; rw [hrd.out] at hR2 ⊢; simp only at hR2 ⊢; have HT := Lib.hid (HSd.out.read hO.turn hR2); have g0 := HT.out.gs.c0; have x1 := HT.out.xc.2.1; clear hR2 hO))
                      go_wp2_with fail
                      go_meet
                      case rel => exact ⟨rfl, HT.out⟩
                  have b0 : (x.kind == 0) = false := by rw [beq_eq_false_iff_ne]; exact e0
                  by_cases e1 : x.kind = 1
                  · as_aux_lemma =>
                      rw [e1] at x0
                      have hrd := Lib.hid (HK.out.1 (.inr e1))
                      go_wp2_with fail
                      have HSd := Lib.hid (HS5.out.later (nd (nr W5)))
                      go_region_held3 (fun w' => w'.cell? ⟨q, 0, none⟩ = some (.int .u64 (V5 : Nat))) (exact g0) (first | (go_at_call 52; refine (rint_any gr A4 c4 l _ _ _ HSd.out.rd HLL.out).mono ?_; rintro e' W6 ⟨rfl, hR2, hO⟩; rw [hrd.out] at hR2 ⊢; simp only at hR2 ⊢; have HT := Lib.hid (HSd.out.read hO.turn hR2); have g0 := HT.out.gs.c0; have x1 := HT.out.xc.2.1; clear hR2 hO) | (go_at_call 53; refine (rzag_any V5 _ hV5).mono ?_; rintro e' w' ⟨rfl, rfl⟩))
                      go_wp2_with fail
                      go_meet
                      case rel => exact ⟨rfl, HT.out⟩
                  have b1 : (x.kind == 1) = false := by rw [beq_eq_false_iff_ne]; exact e1
                  by_cases e2 : x.kind = 2
                  · as_aux_lemma =>
                      rw [e2] at x0
                      have hrd := Lib.hid (HK.out.2.1 e2)
                      go_wp2_with fail
                      have HSd := Lib.hid (HS5.out.later (nd (nr W5)))
                      go_region_held3 (fun w' => w'.cell? ⟨q, 0, none⟩ = some (.int .u64 (V5 : Nat))) (exact g0) (first | (go_at_call 54; refine (rfix_any gr A4 c4 l _ _ _ HSd.out.rd HLL.out).mono ?_; rintro e' W6 ⟨rfl, hR2, hO⟩; rw [hrd.out.2.1, hrd.out.2.2] at hR2; rw [hrd.out.1]; have HT := Lib.hid (HSd.out.read hO hR2); have g0 := HT.out.gs.c0; have x1 := HT.out.xc.2.1; clear hR2 hO))
                      go_wp2_with fail
                      go_meet
                      case rel => exact ⟨rfl, HT.out⟩
                  have b2 : (x.kind == 2) = false := by rw [beq_eq_false_iff_ne]; exact e2
                  by_cases e3 : x.kind = 3
                  · as_aux_lemma =>
                      rw [e3] at x0
                      have hrd := Lib.hid (HK.out.2.2.1 e3)
                      go_wp2_with fail
                      refine (rtext_any gr A4 c4 l _ _ x.n W5 HS5.out.rd HLL.out HOK.out.2.1.1 HOK.out.2.1.2).mono ?_
                      rintro e' W6 ⟨rfl, hR2, hO⟩
                      rw [hrd.out] at hR2 ⊢
                      simp only at hR2 ⊢
                      have HT := Lib.hid (HS5.out.read hO hR2)
                      clear hR2 hO
                      go_wp2_with fail
                      go_meet
                      case rel => exact ⟨rfl, HT.out⟩
                  have b3 : (x.kind == 3) = false := by rw [beq_eq_false_iff_ne]; exact e3
                  by_cases e4 : x.kind = 4
                  · as_aux_lemma =>
                      rw [e4] at x0
                      have hrd := Lib.hid (HK.out.2.2.2.1 e4)
                      go_wp2_with fail
                      refine (rraw_any gr A4 c4 l _ _ x.n W5 HS5.out.rd HLL.out HOK.out.2.1.1 HOK.out.2.1.2).mono ?_
                      rintro e' W6 ⟨A7, c7, rfl, hby, hR2, hO⟩
                      rw [hrd.out] at hby hR2 ⊢
                      simp only at hby hR2 ⊢
                      have r1 := run_str W6 0 A7 0 c7 [] (Bytes.nil_ A7) rfl
                      have HT := Lib.hid (HS5.out.read hO hR2)
                      clear hR2 hO hby
                      go_wp2_with fail
                      go_meet
                      case rel => exact ⟨rfl, HT.out⟩
                  have b4 : (x.kind == 4) = false := by rw [beq_eq_false_iff_ne]; exact e4
                  by_cases e5 : x.kind = 5
                  · as_aux_lemma =>
                      rw [e5] at x0
                      have hrd := Lib.hid (HK.out.2.2.2.2.1 e5)
                      have hVm := countS_le l at_ e x.n HOK.out.2.1.2
                      rw [hrd.out] at hVm
                      simp only at hVm
                      have hwV : IntKind.u64.wrap (V5 : Int) = (V5 : Int) := by have e : ∀ z : Int, IntKind.u64.wrap z = z % 18446744073709551616 := fun z => (by simp [IntKind.wrap, IntKind.bits, IntKind.signed]); rw [e]; omega
                      go_wp2_with fail
                      have HSd := Lib.hid (HS5.out.later (nd (nr W5)))
                      go_region_held3 (fun w' => w'.cell? ⟨q, 0, none⟩ = some (.int .u64 (V5 : Nat)) ∧ w'.cell? ⟨p, 1, none⟩ = some (.int .i64 x.n)) (exact ⟨g0, x1⟩) (first | (go_at_call 57; refine (rcount_any gr A4 c4 l _ _ x.n _ HSd.out.rd HLL.out HOK.out.2.1.1 HOK.out.2.1.2).mono ?_; rintro e' W6 ⟨rfl, hR2, hO⟩; rw [hrd.out] at hR2 ⊢; simp only at hR2 ⊢; have HT := Lib.hid (HSd.out.read hO.turn hR2); have g0 := HT.out.gs.c0; have x1 := HT.out.xc.2.1; clear hR2 hO))
                      go_wp2_with fail
                      go_meet
                      case rel => exact ⟨rfl, HT.out⟩
                  have b5 : (x.kind == 5) = false := by rw [beq_eq_false_iff_ne]; exact e5
                  obtain ⟨ha, hee⟩ := HK.out.2.2.2.2.2 e0 e1 e2 e3 e4 e5
                  go_wp2_with fail
                  go_meet
                  case rel => exact ⟨rfl, HS5.out⟩
                case rest =>
                  as_aux_lemma =>
                    obtain ⟨rfl, HT⟩ := hcut
                    clear g0 g1 g2 f0 f1 f2 x0 x1 x2 x3
                    obtain ⟨g0, g1, g2, f0, f1, f2⟩ := HT.out.gs
                    go_wp2_with fail
                    refine (err_any gr A4 c4 l _ _ _ HT.out.rd).mono ?_
                    rintro e' w' ⟨rfl, rfl⟩
                    go_wp2_with fail
                    refine (at_any gr A4 c4 l _ _ _ HT.out.rd).mono ?_
                    rintro e' w' ⟨rfl, rfl⟩
                    go_wp2_with fail
                    refine (left_any gr A4 c4 l _ _ _ HT.out.rd HLL.out).mono ?_
                    rintro e' w' ⟨rfl, rfl⟩
                    rw [Int.natCast_sub HT.out.rd.at_le, Hnb.out]
                    go_wp2_with fail
                    go_roundg (gk - 1)
                    case measure => omega
                    case rel => exact ⟨by omega, by rw [hgi.out]; congr 1, _, _, rfl, rfl, HT.out.rd.drew, nD HT.out.below 1⟩
    · have hil : i < nb := by omega
      obtain ⟨q, e, hq1, hq2⟩ := ho.some_ (by omega)
      subst e
      obtain ⟨b4, rfl, hb4⟩ := Hfar.out (by omega)
      have hqS := hg.out.2.2 q rfl
      have hgS := hg.out.2.1
      obtain ⟨y, hy⟩ : ∃ y, l'[i]? = some y := ⟨l'[i]'(by omega), List.getElem?_eq_getElem _⟩
      have ho' := ho
      rw [← hl'] at ho'
      have hc := ho'.cell hy
      have hf := ho'.free i
      obtain ⟨z, hz⟩ := byte_xor y
      have hset := ho'.set_ i z
      rw [List.length_set, hl'] at hset
      have HN : Hid (∃ l' : List UInt8, l'.length = nb ∧ Own (wr.setCell ⟨q, i, none⟩ (B8 z)) w.heap.size (.slice (some ⟨q, 0, none⟩) nb c3) l' ∧ PR w (wr.setCell ⟨q, i, none⟩ (B8 z)) gr (some ⟨b4, 0, none⟩) c4 l 0 0) :=
        ⟨l'.set i z, by rw [List.length_set]; exact hl', hset, hr.same (Below.heap_setCell _ _ _ _ (show gr ≠ q by omega)) (fun b off e => by injection e with e; injection e with e1 e2; subst e1; exact Below.heap_setCell _ _ _ _ (show b4 ≠ q by omega)) (by simp [World.setCell]), hb.setCell hq1 _⟩
      have hgi : Hid (nb - (gk - 1) = i + 1) := show _ = _ by omega
      clear hR ho ho' hr hb hset hy
      go_wp2_with fail
      go_roundg (gk - 1)
      case measure => omega
      case rel => exact ⟨by omega, by rw [hgi.out]; congr 1, HN.out⟩
end Go.Proofs.Ytegpoghgddjmaaa
