/- The law PackBack: its walk. -/
import Derived.Test.YtegpoghgddjmaaaBack
import Derived.Deep.RegionHeld3
namespace Go.Proofs.Ytegpoghgddjmaaa
open Go.RowKit
set_option maxRecDepth 100000

def PB1 (L : List Wd) (w wr : World) (gw k : Nat) : Prop := ∃ vw, OwnW wr gw vw (forms (L.take k)) ∧ Below w.heap.size w wr
def PB2 (w wr : World) (A : Option Addr) (n c gr : Nat) (A2 : Option Addr) (c2 : Nat) (l : List UInt8) : Prop :=
  ∃ l' : List UInt8, l'.length = n ∧ Own wr w.heap.size (.slice A n c) l' ∧ OwnR wr gr A2 c2 l 0 0 ∧ Below w.heap.size w wr
def PB3 (L : List Wd) (w wr : World) (gr k : Nat) (A2 : Option Addr) (c2 : Nat) : Prop := OwnR wr gr A2 c2 (forms L) (forms (L.take k)).length 0 ∧ Below w.heap.size w wr
theorem PB3.next {L : List Wd} {w W1 W2 : World} {gr k : Nat} {A2 : Option Addr} {c2 : Nat} {x : Wd} (hx : L[k]? = some x) (hR : OwnR W2 gr A2 c2 (forms L) ((forms (L.take k)).length + (form1 x).length) 0) (hT : Turn gr W1 W2) (hb : Below w.heap.size w W1) (hg : w.heap.size ≤ gr) : PB3 L w W2 gr (k + 1) A2 c2 := by
  refine ⟨?_, hb.trans (hT.below hg hb.size)⟩
  rw [forms_snoc L k x hx, List.length_append]
  exact hR

set_option maxHeartbeats 8000000 in
theorem packBack_law (A : Option Addr) (n cap : Nat) (L : List Wd) (w : World) (hA : Words w w.heap.size A L) (hn : L.length = n) :
    Calls Try.prog 9 #[.slice A n cap] w fun e w' => e = .returned (.bool true) ∧ Below w.heap.size w w' := by
  go_enter Try.func9, Try.ntmps9
  go_wp2_with fail
  refine (awake02_any w).mono ?_
  rintro e w1 ⟨rfl, hB⟩
  have HB := Lib.hid hB
  clear hB
  go_wp2_with fail
  refine (some_any A n cap L w1 (hA.below HB.out HB.out.size) hn).mono ?_
  rintro e w' ⟨rfl, h⟩
  rcases h with rfl | ⟨rfl, hs⟩
  · go_wp2_with fail
    go_ret
    exact ⟨rfl, HB.out⟩
  have Hs := Lib.hid hs
  clear hs
  go_wp2_with fail
  refine (newWriter_any w').mono ?_
  rintro e w2 ⟨rfl, hW2, hb2⟩
  have h0 : Hid (PB1 L w w2 w'.heap.size 0) := ⟨_, hW2, HB.out.trans (hb2.mono HB.out.size)⟩
  have hgw : Hid (w.heap.size ≤ w'.heap.size) := HB.out.size
  clear hW2 hb2 HB
  generalize w'.heap.size = gw at *
  have h60 := Hs.out.1
  go_wp2_with fail
  go_loopg [4] n (fun g i wr => g ≤ n ∧ i = .int .i64 ((n - g : Nat) : Int) ∧ Hid (PB1 L w wr gw (n - g)))
  case atStart => exact ⟨Nat.le_refl _, by simp, by rw [Nat.sub_self]; exact h0⟩
  case round =>
    obtain ⟨hk, rfl, hR⟩ := hrel
    obtain ⟨k, hkk⟩ : ∃ k, n - gk = k := ⟨_, rfl⟩
    rw [hkk] at hR ⊢
    obtain ⟨vw, hW, hb⟩ := hR.out
    have hFl := forms_le L k Hs.out.2
    by_cases hk0 : gk = 0
    · obtain rfl : k = n := by omega
      have hall : forms (L.take k) = forms L := by rw [List.take_of_length_le (by omega)]
      rw [hall] at hW hFl
      have HW := Lib.hid (And.intro hW hb)
      clear hW hb hR hall
      go_wp2_with fail
      refine (wbytes_any gw (forms L) wr vw HW.out.1 (by omega)).mono ?_
      rintro e w3 ⟨A3, c3, rfl, ho3, hb3⟩
      have HW3 := Lib.hid (And.intro ho3 (HW.out.2.trans (hb3.mono HW.out.2.size)))
      have hs3 := Lib.hid (show w.heap.size ≤ wr.heap.size from HW.out.2.size)
      clear ho3 hb3 HW
      generalize hl3 : (forms L).length = nb at *
      have Hl := Lib.hid hl3
      clear hl3
      go_wp2_with fail
      refine (newReader_far A3 nb c3 (forms L) w3 (by have := HW3.out.1.bytes.1; exact this) Hl.out (by omega) (by have := HW3.out.1; rw [← Hl.out] at this; exact own_nil this)).mono ?_
      rintro e w4 ⟨gr, A4, c4, rfl, hg4, hR4, hb4, hfar⟩
      have h2 : Hid (PB2 w w4 A3 nb c3 gr A4 c4 (forms L)) := ⟨forms L, Hl.out, (HW3.out.1.rebase hs3.out).new_ hb4, hR4, HW3.out.2.trans (hb4.mono HW3.out.2.size)⟩
      have hg : Hid (w.heap.size ≤ gr ∧ w3.heap.size ≤ gr ∧ (∀ q, A3 = some ⟨q, 0, none⟩ → q < w3.heap.size)) := ⟨Nat.le_trans HW3.out.2.size hg4, hg4, fun q hq => by
        subst hq
        exact (World.ownsRow.lt HW3.out.1 q rfl).2⟩
      have Hfar := Lib.hid hfar
      clear hfar hb4 hR4 hg4 HW3 hs3
      generalize w3.heap.size = S3 at *
      go_wp2_with fail
      go_loopg [8] nb (fun g i wr => g ≤ nb ∧ i = .int .i64 ((nb - g : Nat) : Int) ∧ Hid (PB2 w wr A3 nb c3 gr A4 c4 (forms L)))
      case atStart => exact ⟨Nat.le_refl _, by simp, h2⟩
      case round =>
        obtain ⟨hkb, rfl, hR⟩ := hrel
        obtain ⟨i, hii⟩ : ∃ i, nb - gk = i := ⟨_, rfl⟩
        rw [hii] at ⊢
        obtain ⟨l', hl', ho, hr, hb⟩ := hR.out
        by_cases hk1 : gk = 0
        · obtain rfl : i = nb := by omega
          have h3 : Hid (PB3 L w wr gr 0 A4 c4) := ⟨hr, hb⟩
          clear hR ho hr hb
          go_wp2_with fail
          have hle : (forms L).length ≤ 140737488355328 := by have := Hl.out; omega
          have hgr : Hid (w.heap.size ≤ gr) := hg.out.1
          clear hg h2 h0 Hfar
          go_loopg [9] k (fun g i wr => g ≤ k ∧ i = .int .i64 ((k - g : Nat) : Int) ∧ Hid (PB3 L w wr gr (k - g) A4 c4))
          case atStart => exact ⟨Nat.le_refl _, by simp, by rw [Nat.sub_self]; exact h3⟩
          case round =>
            obtain ⟨hkc, rfl, hR⟩ := hrel
            obtain ⟨m, hmm⟩ : ∃ m, k - gk = m := ⟨_, rfl⟩
            rw [hmm] at hR ⊢
            obtain ⟨hr, hb⟩ := hR.out
            by_cases hk2 : gk = 0
            · obtain rfl : m = k := by omega
              have hall : forms (L.take m) = forms L := by rw [List.take_of_length_le (by omega)]
              rw [hall] at hr
              have HE := Lib.hid hb
              have hd := done_any gr A4 c4 (forms L) _ 0 wr hr hle
              rw [if_neg (by omega)] at hd
              have hd := Lib.hid hd
              clear hR hr hb hall
              go_wp2_with fail
              refine hd.out.mono ?_
              rintro e w9 ⟨⟨nn, rfl⟩, rfl⟩
              go_wp2_with fail
              go_ret
              exact ⟨rfl, nD HE.out nn⟩
            · have hlt : m < k := by omega
              have hgi : Hid (k - (gk - 1) = m + 1) := show _ = _ by omega
              obtain ⟨b, off, x, rfl, hbg, hx, ⟨k0, k1, k2, k3⟩, hok⟩ := (hA.below hb hb.size).at_ (k := m) (by omega)
              have hsl := Hs.out.2 m x hx
              have hdrop := forms_drop L m
              rw [forms_next L m x hx] at hdrop
              have HX := Lib.hid (And.intro hx hdrop)
              have hXC := XC.made wr x 33
              have hr1 := hr.new_ (na (nr wr) (.cells #[.int .i64 x.kind, .int .i64 x.n, .int .u64 x.v, S8 x.s] 33))
              have hb1 := hb.trans ((na (nr wr) (.cells #[.int .i64 x.kind, .int .i64 x.n, .int .u64 x.v, S8 x.s] 33)).mono hb.size)
              have hp : Hid (wr.heap.size < (wr.alloc (.cells #[.int .i64 x.kind, .int .i64 x.n, .int .u64 x.v, S8 x.s] 33)).heap.size ∧ wr.heap.size ≠ gr) := ⟨by simp, Nat.ne_of_gt hr.lt⟩
              clear hR hr hx hdrop
              go_upto_region 31 with fail
              have HR := Lib.hid (And.intro hr1 hb1)
              clear hr1 hb1 hb k0 k1 k2 k3 hA hbg
              generalize (wr.alloc (.cells #[.int .i64 x.kind, .int .i64 x.n, .int .u64 x.v, S8 x.s] 33)) = W1 at *
              generalize wr.heap.size = p at *
              obtain ⟨x0, x1, x2, x3⟩ := hXC
              by_cases e0 : x.kind = 0
              · have hf : Hid (form1 x = num x.v) := by unfold Hid form1; rw [if_pos e0]
                rw [e0] at x0
                have hrd := Lib.hid (read_num (R := forms (L.drop (m + 1))) (by rw [HX.out.2, hf.out]) hok.2.2.1)
                clear x3 x1
                go_wp2_with fail
                have hT0 : Hid (Turn gr W1 W1.drew) := ((Only.refl gr W1).drew).turn
                have HRd := Lib.hid HR.out.1.drew
                go_region_held3 (fun w' => w'.cell? ⟨p, 2, none⟩ = some (.int .u64 x.v)) (exact x2) (first
                  | (go_at_call 32; refine (rnum_s gr A4 c4 (forms L) _ 0 _ HRd.out hle).mono ?_; rintro e W2 ⟨rfl, hR2, hO⟩; rw [hrd.out] at hR2 ⊢; have hT2 := hT0.out.trans hO.turn; have x2 := (World.cell?_of_block (hT2.block p hp.out.1 hp.out.2)).trans x2; have H2 := Lib.hid (And.intro hR2 hT2); clear hR2 hO hT2))
                go_wp2_with fail
                go_roundg (gk - 1)
                case measure => omega
                case rel => exact ⟨by omega, by rw [hgi.out]; congr 1, by rw [hgi.out]; exact PB3.next HX.out.1 (by rw [hf.out]; exact H2.out.1) H2.out.2 HR.out.2 hgr.out⟩
              have b0 : (x.kind == 0) = false := by rw [beq_eq_false_iff_ne]; exact e0
              by_cases e1 : x.kind = 1
              · have hf : Hid (form1 x = num (zig x.n).toNat) := by unfold Hid form1; rw [if_neg e0]; rw [if_pos e1]
                rw [e1] at x0
                have hz0 : 0 ≤ zig x.n ∧ zig x.n < 18446744073709551616 := by have := hok.2.1; unfold zig; split <;> omega
                have hrd0 := read_num (R := forms (L.drop (m + 1))) (by rw [HX.out.2, hf.out]) (by omega)
                have hrd := Lib.hid hrd0
                have hzz : zag (((zig x.n).toNat : Nat) : Int) = x.n := by rw [Int.toNat_of_nonneg hz0.1, zag_zig2]
                have hzz := Lib.hid hzz
                clear hrd0 hz0
                clear x3 x2
                go_wp2_with fail
                have hT0 : Hid (Turn gr W1 W1.drew) := ((Only.refl gr W1).drew).turn
                have HRd := Lib.hid HR.out.1.drew
                go_region_held3 (fun w' => w'.cell? ⟨p, 1, none⟩ = some (.int .i64 x.n)) (exact x1) (first
                  | (go_at_call 52; refine (rint_any gr A4 c4 (forms L) _ 0 _ HRd.out hle).mono ?_; rintro e W2 ⟨rfl, hR2, hO⟩; rw [hrd.out] at hR2 ⊢; simp only at hR2 ⊢; rw [hzz.out]; have hT2 := hT0.out.trans hO.turn; have x1 := (World.cell?_of_block (hT2.block p hp.out.1 hp.out.2)).trans x1; have H2 := Lib.hid (And.intro hR2 hT2); clear hR2 hO hT2))
                go_wp2_with fail
                go_roundg (gk - 1)
                case measure => omega
                case rel => exact ⟨by omega, by rw [hgi.out]; congr 1, by rw [hgi.out]; exact PB3.next HX.out.1 (by rw [hf.out]; exact H2.out.1) H2.out.2 HR.out.2 hgr.out⟩
              have b1 : (x.kind == 1) = false := by rw [beq_eq_false_iff_ne]; exact e1
              by_cases e2 : x.kind = 2
              · have hf : Hid (form1 x = leb x.v 8) := by unfold Hid form1; rw [if_neg e0]; rw [if_neg e1]; rw [if_pos e2]
                rw [e2] at x0
                have hrd := Lib.hid (read_fix (R := forms (L.drop (m + 1))) (by rw [HX.out.2, hf.out]))
                have hln := Lib.hid (show leNum (leb x.v 8) = x.v by rw [leNum_leb]; exact Nat.mod_eq_of_lt (by have := hok.2.2.1; simp only [Nat.reducePow]; omega))
                clear x3 x1
                go_wp2_with fail
                have hT0 : Hid (Turn gr W1 W1.drew) := ((Only.refl gr W1).drew).turn
                have HRd := Lib.hid HR.out.1.drew
                go_region_held3 (fun w' => w'.cell? ⟨p, 2, none⟩ = some (.int .u64 x.v)) (exact x2) (first
                  | (go_at_call 54; refine (rfix_any gr A4 c4 (forms L) _ 0 _ HRd.out hle).mono ?_; rintro e W2 ⟨rfl, hR2, hO⟩; rw [hrd.out] at hR2 ⊢; simp only at hR2 ⊢; rw [hln.out]; have hT2 := hT0.out.trans hO; have x2 := (World.cell?_of_block (hT2.block p hp.out.1 hp.out.2)).trans x2; have H2 := Lib.hid (And.intro hR2 hT2); clear hR2 hO hT2))
                go_wp2_with fail
                go_roundg (gk - 1)
                case measure => omega
                case rel => exact ⟨by omega, by rw [hgi.out]; congr 1, by rw [hgi.out]; exact PB3.next HX.out.1 (by rw [hf.out]; exact H2.out.1) H2.out.2 HR.out.2 hgr.out⟩
              have b2 : (x.kind == 2) = false := by rw [beq_eq_false_iff_ne]; exact e2
              by_cases e3 : x.kind = 3
              · have hf : Hid (form1 x = num x.s.length ++ x.s) := by unfold Hid form1; rw [if_neg e0]; rw [if_neg e1]; rw [if_neg e2]; rw [if_pos e3]
                rw [e3] at x0
                have hrd := Lib.hid (read_text (R := forms (L.drop (m + 1))) (by rw [HX.out.2, hf.out]) hsl)
                clear x2 x1
                go_wp2_with fail
                have hT0 : Hid (Turn gr W1 W1.drew) := ((Only.refl gr W1).drew).turn
                have HRd := Lib.hid HR.out.1.drew
                go_region_held3 (fun w' => w'.cell? ⟨p, 3, none⟩ = some (S8 x.s)) (exact x3) (first
                  | (go_at_call 55; refine (rtext_any gr A4 c4 (forms L) _ 0 300 _ HRd.out hle (by decide) (by decide)).mono ?_; rintro e W2 ⟨rfl, hR2, hO⟩; rw [hrd.out] at hR2 ⊢; have hT2 := hT0.out.trans hO; have x3 := (World.cell?_of_block (hT2.block p hp.out.1 hp.out.2)).trans x3; have H2 := Lib.hid (And.intro hR2 hT2); clear hR2 hO hT2))
                go_wp2_with fail
                go_roundg (gk - 1)
                case measure => omega
                case rel => exact ⟨by omega, by rw [hgi.out]; congr 1, by rw [hgi.out]; exact PB3.next HX.out.1 (by rw [hf.out]; exact H2.out.1) H2.out.2 HR.out.2 hgr.out⟩
              have b3 : (x.kind == 3) = false := by rw [beq_eq_false_iff_ne]; exact e3
              by_cases e4 : x.kind = 4
              · have hf : Hid (form1 x = x.s) := by unfold Hid form1; rw [if_neg e0]; rw [if_neg e1]; rw [if_neg e2]; rw [if_neg e3]; rw [if_pos e4]
                rw [e4] at x0
                have hrd := Lib.hid (read_raw (R := forms (L.drop (m + 1))) (by rw [HX.out.2, hf.out]))
                clear x1 x2
                go_wp2_with fail
                have hT0 : Hid (Turn gr W1 W1.drew) := ((Only.refl gr W1).drew).turn
                have HRd := Lib.hid HR.out.1.drew
                have hsl2 : (x.s.length : Int) ≤ 300 := by omega
                go_region_with (first
                  | (go_at_call 56; refine (rraw_any gr A4 c4 (forms L) _ 0 (x.s.length : Nat) _ HRd.out hle (by omega) (by omega)).mono ?_; rintro e W2 ⟨A7, c7, rfl, hby, hR2, hT2⟩; rw [hrd.out] at hby hR2 ⊢; have x3 := (World.cell?_of_block ((hT0.out.trans hT2).block p hp.out.1 hp.out.2)).trans x3; have r1 := run_str W2 _ A7 _ c7 _ hby rfl; have H2 := Lib.hid (And.intro hR2 (hT0.out.trans hT2)); clear hR2 hT2 hby))
                all_goals (
                  go_wp2_with fail
                  go_roundg (gk - 1)
                  case measure => omega
                  case rel => exact ⟨by omega, by rw [hgi.out]; congr 1, by rw [hgi.out]; exact PB3.next HX.out.1 (by rw [hf.out]; exact H2.out.1) H2.out.2 HR.out.2 hgr.out⟩)
              have b4 : (x.kind == 4) = false := by rw [beq_eq_false_iff_ne]; exact e4
              have hf : Hid (form1 x = []) := by unfold Hid form1; rw [if_neg e0]; rw [if_neg e1]; rw [if_neg e2]; rw [if_neg e3]; rw [if_neg e4]
              go_wp2_with fail
              go_roundg (gk - 1)
              case measure => omega
              case rel => exact ⟨by omega, by rw [hgi.out]; congr 1, by rw [hgi.out]; exact PB3.next HX.out.1 (by rw [hf.out]; exact HR.out.1) (Turn.refl gr W1) HR.out.2 hgr.out⟩
        · have hil : i < nb := by omega
          obtain ⟨q, e, hq1, hq2⟩ := ho.some_ (by omega)
          subst e
          obtain ⟨b4, rfl, hb4⟩ := Hfar.out (by have := Hl.out; omega)
          have hqS := hg.out.2.2 q rfl
          have hgS := hg.out.2.1
          obtain ⟨y, hy⟩ : ∃ y, l'[i]? = some y := ⟨l'[i]'(by omega), List.getElem?_eq_getElem _⟩
          have ho' := ho
          rw [← hl'] at ho'
          have hc := ho'.cell hy
          have hf := ho'.free i
          have hset := ho'.set_ i 0
          rw [List.length_set, hl'] at hset
          have HN : Hid (PB2 w (wr.setCell ⟨q, i, none⟩ (B8 0)) (some ⟨q, 0, none⟩) nb c3 gr (some ⟨b4, 0, none⟩) c4 (forms L)) :=
            ⟨l'.set i 0, by rw [List.length_set]; exact hl', hset, hr.same (Below.heap_setCell _ _ _ _ (show gr ≠ q by omega)) (fun b off e => by injection e with e; injection e with e1 e2; subst e1; exact Below.heap_setCell _ _ _ _ (show b4 ≠ q by omega)) (by simp [World.setCell]), hb.setCell hq1 _⟩
          have hgi : Hid (nb - (gk - 1) = i + 1) := show _ = _ by omega
          clear hR ho ho' hr hb hset hy
          go_wp2_with fail
          go_roundg (gk - 1)
          case measure => omega
          case rel => exact ⟨by omega, by rw [hgi.out]; congr 1, HN.out⟩
    · have hlt : k < n := by omega
      have hgi : Hid (n - (gk - 1) = k + 1) := show _ = _ by omega
      obtain ⟨b, off, x, rfl, hbg, hx, ⟨k0, k1, k2, k3⟩, hok⟩ := (hA.below hb hb.size).at_ (k := k) (by omega)
      have HF := Lib.hid (forms_snoc L k x hx)
      have hsl := Hs.out.2 k x hx
      generalize forms (L.take k) = F at *
      clear hR hx
      have hXC := XC.made wr x 33
      have hW1 := hW.again _ (na (nr wr) (.cells #[.int .i64 x.kind, .int .i64 x.n, .int .u64 x.v, S8 x.s] 33))
      have hb1 := hb.trans ((na (nr wr) (.cells #[.int .i64 x.kind, .int .i64 x.n, .int .u64 x.v, S8 x.s] 33)).mono hb.size)
      clear hW
      go_upto_region 10 with fail
      have HW := Lib.hid (And.intro hW1 hb1)
      clear hW1 hb1 hb k0 k1 k2 k3 hA hbg
      generalize (wr.alloc (.cells #[.int .i64 x.kind, .int .i64 x.n, .int .u64 x.v, S8 x.s] 33)) = W1 at *
      generalize wr.heap.size = p at *
      obtain ⟨x0, x1, x2, x3⟩ := hXC
      by_cases e0 : x.kind = 0
      · have hf : Hid (form1 x = num x.v) := by unfold Hid form1; rw [if_pos e0]
        rw [e0] at x0
        go_wp2_with fail
        refine (wnum_any gw x.v F W1 hok.2.2.1 vw HW.out.1 (by omega)).mono ?_
        rintro e W2 ⟨rfl, v1, hW2, hG⟩
        have H2 := Lib.hid (And.intro hW2 (hG.new_ HW.out.1 hgw.out HW.out.2))
        clear hW2 hG x0 x1 x2 x3
        go_wp2_with fail
        go_roundg (gk - 1)
        case measure => omega
        case rel => exact ⟨by omega, by rw [hgi.out]; congr 1, v1, by rw [hgi.out, HF.out, hf.out]; exact H2.out.1, H2.out.2⟩
      have b0 : (x.kind == 0) = false := by rw [beq_eq_false_iff_ne]; exact e0
      by_cases e1 : x.kind = 1
      · have hf : Hid (form1 x = num (zig x.n).toNat) := by unfold Hid form1; rw [if_neg e0]; rw [if_pos e1]
        rw [e1] at x0
        go_wp2_with fail
        refine (wint_any gw x.n F W1 hok.2.1.1 hok.2.1.2 vw HW.out.1 (by omega)).mono ?_
        rintro e W2 ⟨rfl, v1, hW2, hG⟩
        have H2 := Lib.hid (And.intro hW2 (hG.new_ HW.out.1 hgw.out HW.out.2))
        clear hW2 hG x0 x1 x2 x3
        go_wp2_with fail
        go_roundg (gk - 1)
        case measure => omega
        case rel => exact ⟨by omega, by rw [hgi.out]; congr 1, v1, by rw [hgi.out, HF.out, hf.out]; exact H2.out.1, H2.out.2⟩
      have b1 : (x.kind == 1) = false := by rw [beq_eq_false_iff_ne]; exact e1
      by_cases e2 : x.kind = 2
      · have hf : Hid (form1 x = leb x.v 8) := by unfold Hid form1; rw [if_neg e0]; rw [if_neg e1]; rw [if_pos e2]
        rw [e2] at x0
        go_wp2_with fail
        refine (wfix_any gw x.v F W1 vw HW.out.1 (by omega)).mono ?_
        rintro e W2 ⟨rfl, v1, hW2, hG⟩
        have H2 := Lib.hid (And.intro hW2 (hG.new_ HW.out.1 hgw.out HW.out.2))
        clear hW2 hG x0 x1 x2 x3
        go_wp2_with fail
        go_roundg (gk - 1)
        case measure => omega
        case rel => exact ⟨by omega, by rw [hgi.out]; congr 1, v1, by rw [hgi.out, HF.out, hf.out]; exact H2.out.1, H2.out.2⟩
      have b2 : (x.kind == 2) = false := by rw [beq_eq_false_iff_ne]; exact e2
      by_cases e3 : x.kind = 3
      · have hf : Hid (form1 x = num x.s.length ++ x.s) := by unfold Hid form1; rw [if_neg e0]; rw [if_neg e1]; rw [if_neg e2]; rw [if_pos e3]
        rw [e3] at x0
        go_wp2_with fail
        refine (wtext_any gw x.s F W1 vw HW.out.1 (by omega) (by omega)).mono ?_
        rintro e W2 ⟨rfl, v1, hW2, hG⟩
        have H2 := Lib.hid (And.intro hW2 (hG.new_ HW.out.1 hgw.out HW.out.2))
        clear hW2 hG x0 x1 x2 x3
        go_wp2_with fail
        go_roundg (gk - 1)
        case measure => omega
        case rel => exact ⟨by omega, by rw [hgi.out]; congr 1, v1, by rw [hgi.out, HF.out, hf.out]; exact H2.out.1, H2.out.2⟩
      have b3 : (x.kind == 3) = false := by rw [beq_eq_false_iff_ne]; exact e3
      by_cases e4 : x.kind = 4
      · have hf : Hid (form1 x = x.s) := by unfold Hid form1; rw [if_neg e0]; rw [if_neg e1]; rw [if_neg e2]; rw [if_neg e3]; rw [if_pos e4]
        rw [e4] at x0
        have hrb := fun W => run_bytes W x.s
        have hwn := wraw_any gw (some ⟨W1.drew.heap.size, 0, none⟩) x.s.length (capS W1 x.s) x.s F _ vw (HW.out.1.again _ (na (nd (nr W1)) (rowS x.s (capS W1 x.s)))) (Bytes.newS W1.drew x.s (capS W1 x.s)) rfl (by omega) (by omega)
        have HW := Lib.hid (And.intro (HW.out.1.again _ (na (nd (nr W1)) (rowS x.s (capS W1 x.s)))) (HW.out.2.trans ((na (nd (nr W1)) (rowS x.s (capS W1 x.s))).mono HW.out.2.size)))
        have hwn := Lib.hid hwn
        go_wp2_with fail
        refine hwn.out.mono ?_
        rintro e W2 ⟨rfl, v1, hW2, hG⟩
        have H2 := Lib.hid (And.intro hW2 (hG.new_ HW.out.1 hgw.out HW.out.2))
        clear hW2 hG x0 x1 x2 x3
        go_wp2_with fail
        go_roundg (gk - 1)
        case measure => omega
        case rel => exact ⟨by omega, by rw [hgi.out]; congr 1, v1, by rw [hgi.out, HF.out, hf.out]; exact H2.out.1, H2.out.2⟩
      have b4 : (x.kind == 4) = false := by rw [beq_eq_false_iff_ne]; exact e4
      have hf : Hid (form1 x = []) := by unfold Hid form1; rw [if_neg e0]; rw [if_neg e1]; rw [if_neg e2]; rw [if_neg e3]; rw [if_neg e4]
      go_wp2_with fail
      go_roundg (gk - 1)
      case measure => omega
      case rel => exact ⟨by omega, by rw [hgi.out]; congr 1, vw, by rw [hgi.out, HF.out, hf.out, List.append_nil]; exact HW.out.1, HW.out.2⟩
end Go.Proofs.Ytegpoghgddjmaaa
