/- The law PackWrites: its walk. -/
import Derived.Test.YtegpoghgddjmaaaTwo
namespace Go.Proofs.Ytegpoghgddjmaaa
open Go.RowKit
set_option maxRecDepth 100000

def PWAt (L : List Wd) (w wr : World) (gw k : Nat) (o : Value) : Prop := ∃ vw, Two w wr gw vw o (forms (L.take k))
set_option maxHeartbeats 8000000 in
theorem packWrites_law (A : Option Addr) (n cap : Nat) (L : List Wd) (w : World) (hA : Words w w.heap.size A L) (hn : L.length = n) :
    Calls Try.prog 4 #[.slice A n cap] w fun e w' => e = .returned (.bool true) ∧ Below w.heap.size w w' := by
  go_enter Try.func4, Try.ntmps4
  go_wp2_with fail
  refine (awake02_any w).mono ?_
  rintro e w1 ⟨rfl, hB⟩
  have HB := Lib.hid hB
  clear hB
  go_wp2_with fail
  refine (some_any A n cap L w1 (hA.below HB.out HB.out.size) hn).mono ?_
  rintro e w' ⟨rfl, h⟩
  rcases h with rfl | ⟨rfl, hs⟩
  · go_wp2_with fail
    go_ret
    exact ⟨rfl, HB.out⟩
  have Hs := Lib.hid hs
  clear hs
  go_wp2_with fail
  refine (newWriter_any w').mono ?_
  rintro e w2 ⟨rfl, hW2, hb2⟩
  have h0 : Hid (Two w w2 w'.heap.size (.slice none 0 0) (.slice none 0 0) (forms (L.take 0))) :=
    ⟨hW2, Own.nil_ _ _, (by intro q h; simp [Value.ownBlock] at h), HB.out.trans (hb2.mono HB.out.size), HB.out.size⟩
  have hgw : Hid (w.heap.size ≤ w'.heap.size) := HB.out.size
  clear hW2 hb2 HB
  generalize w'.heap.size = gw at *
  have h60 := Hs.out.1
  go_wp2_with fail
  go_loopg [4, 5] n (fun g o i wr => g ≤ n ∧ i = .int .i64 ((n - g : Nat) : Int) ∧ Hid (PWAt L w wr gw (n - g) o))
  case atStart => exact ⟨Nat.le_refl _, by simp, by rw [Nat.sub_self]; exact ⟨_, h0.out⟩⟩
  case round =>
    obtain ⟨hk, rfl, hR⟩ := hrel
    obtain ⟨k, hkk⟩ : ∃ k, n - gk = k := ⟨_, rfl⟩
    rw [hkk] at hR ⊢
    obtain ⟨vw, hT⟩ := hR.out
    have hFl := forms_le L k Hs.out.2
    by_cases hk0 : gk = 0
    · obtain rfl : k = n := by omega
      obtain ⟨A1, c1, rfl, -⟩ := Own.form hT.all
      generalize forms (L.take k) = F at *
      have Cb := Lib.hid (fun W (h : Below wr.heap.size wr W) => wbytes_any gw F W vw (hT.wri.again W h) (by omega))
      have Ck := Lib.hid (fun W (h : Below wr.heap.size wr W) => run_str W _ A1 F.length c1 F (hT.all.new_ h).bytes.1 rfl)
      have HT := Lib.hid hT
      clear hR hT hA
      have hcur := nd (nr wr)
      have ck := Ck.out _ hcur
      go_wp2_with fail
      go_region_with (first
        | (go_at_call 30; refine (Cb.out _ hcur).mono ?_; rintro e W' ⟨A7, c7, rfl, ho, hb'⟩; have hcur := nt hcur hb'; have ck := Ck.out _ hcur; have r1 := run_str W' _ A7 _ c7 _ ho.bytes.1 rfl; clear hb' ho))
      all_goals (
        go_wp2_with fail
        go_ret
        refine ⟨?_, HT.out.below.trans (hcur.mono HT.out.below.size)⟩
        first
          | rfl
          | (simp [Act.put]; done))
    · have hlt : k < n := by omega
      have hgi : Hid (n - (gk - 1) = k + 1) := show _ = _ by omega
      obtain ⟨b, off, x, rfl, hbg, hx, ⟨k0, k1, k2, k3⟩, hok⟩ := (hA.below hT.below hT.below.size).at_ (k := k) (by omega)
      have HF := Lib.hid (forms_snoc L k x hx)
      have hsl := Hs.out.2 k x hx
      generalize forms (L.take k) = F at *
      clear hR hx
      have hXC := XC.made wr x 33
      have hT1 := hT.later (na (nr wr) (.cells #[.int .i64 x.kind, .int .i64 x.n, .int .u64 x.v, S8 x.s] 33))
      obtain ⟨A1, c1, rfl, -⟩ := Own.form hT.all
      have HT := Lib.hid hT
      have Hp : Hid (wr.heap.size < (wr.alloc (.cells #[.int .i64 x.kind, .int .i64 x.n, .int .u64 x.v, S8 x.s] 33)).heap.size ∧ wr.heap.size ≠ gw ∧ vw.ownBlock ≠ some wr.heap.size) :=
        ⟨by simp, Nat.ne_of_gt hT.wri.2.2.1, fun e => by have := (World.ownsRow.lt hT.wri.2.2.2 _ e).2; omega⟩
      clear hT
      go_upto_region 11 with fail
      have HX := Lib.hid hXC
      have HT1 := Lib.hid hT1
      clear hT1 k0 k1 k2 k3 hA hbg
      generalize (wr.alloc (.cells #[.int .i64 x.kind, .int .i64 x.n, .int .u64 x.v, S8 x.s] 33)) = W1 at *
      generalize wr.heap.size = p at *
      obtain ⟨x0, x1, x2, x3⟩ := hXC
      by_cases e0 : x.kind = 0
      · have hf : Hid (form1 x = num x.v) := by unfold Hid form1; rw [if_pos e0]
        have hml := num_length x.v
        have hrn := rnumform_any x.v
        have hwn := wnum_any gw x.v F W1 hok.2.2.1 vw HT1.out.wri (by omega)
        generalize num x.v = m at hf hml hrn hwn
        have hrn := Lib.hid hrn
        have hwn := Lib.hid hwn
        rw [e0] at x0
        go_wp2_with fail
        refine hwn.out.mono ?_
        rintro e W2 ⟨rfl, v1, hW, hG⟩
        have hX2 := HX.out.keep (hG.block p Hp.out.1 Hp.out.2.1 Hp.out.2.2)
        obtain ⟨_, y1, y2, y3⟩ := hX2
        have H2 := Lib.hid (And.intro hW hG)
        clear hW hG x0 x1 x2 x3
        go_wp2_with fail
        refine (hrn.out W2 hok.2.2.1).mono ?_
        rintro e W3 ⟨A3, c3, rfl, ho3, h3⟩
        have hmid := (HT1.out.wrote H2.out.2).1.new_ h3
        have H3 := Lib.hid (And.intro ho3 h3)
        clear ho3 h3
        go_wp2_with (at_builtin; go_loud (refine wpList_append_bytes_form rfl (.tmp 31) (.tmp 34) rfl (gw + 1) (.slice A1 F.length c1) F rfl hmid _ A3 c3 m rfl H3.out.1.bytes.1 (by omega) (Nat.le_trans (Nat.succ_le_of_lt H2.out.1.2.2.1) H3.out.2.size) ?_)
                     intro A4 c4 W4 ho4 hg4 hat4
                     rw [show (F ++ m).length = F.length + m.length by simp] at ho4 hat4 ⊢)
        have hT4 := HT1.out.step H2.out.1 H2.out.2 H3.out.2 ho4 hg4 hat4
        have HT4 := Lib.hid hT4
        clear ho4 hg4 hat4 hT4
        refine (wlen_any gw (F ++ m) W4 v1 HT4.out.wri).mono ?_
        rintro e w' ⟨rfl, rfl⟩
        rw [show (F ++ m).length = F.length + m.length by simp]
        go_wp2_with fail
        go_roundg (gk - 1)
        case measure => omega
        case rel => exact ⟨by omega, by rw [hgi.out]; congr 1, v1, by rw [hgi.out, HF.out, hf.out]; exact HT4.out⟩
      have b0 : (x.kind == 0) = false := by rw [beq_eq_false_iff_ne]; exact e0
      by_cases e1 : x.kind = 1
      · have hf : Hid (form1 x = num (zig x.n).toNat) := by unfold Hid form1; rw [if_neg e0]; rw [if_pos e1]
        obtain ⟨zz, hzz⟩ := Int.eq_ofNat_of_zero_le (show 0 ≤ zig x.n by unfold zig; split <;> omega)
        have hzl : zz < 18446744073709551616 := by have h1 := hok.2.1; have : zig x.n < 18446744073709551616 := by unfold zig; split <;> omega
                                                   omega
        have hrz := rzig_any x.n
        have hwn := wint_any gw x.n F W1 hok.2.1.1 hok.2.1.2 vw HT1.out.wri (by omega)
        rw [hzz] at hf hwn hrz
        rw [show ((zz : Int)).toNat = zz from rfl] at hf hwn
        have hml := num_length zz
        have hrn := rnumform_any zz
        clear hzz
        generalize num zz = m at hf hml hrn hwn
        have hrn := Lib.hid hrn
        have hwn := Lib.hid hwn
        have hrz := Lib.hid hrz
        rw [e1] at x0
        go_wp2_with fail
        refine hwn.out.mono ?_
        rintro e W2 ⟨rfl, v1, hW, hG⟩
        have hX2 := HX.out.keep (hG.block p Hp.out.1 Hp.out.2.1 Hp.out.2.2)
        obtain ⟨_, y1, y2, y3⟩ := hX2
        have H2 := Lib.hid (And.intro hW hG)
        clear hW hG x0 x1 x2 x3
        go_wp2_with fail
        refine (hrz.out W2 hok.2.1.1 hok.2.1.2).mono ?_
        rintro e w' ⟨rfl, rfl⟩
        go_wp2_with fail
        refine (hrn.out w' hzl).mono ?_
        rintro e W3 ⟨A3, c3, rfl, ho3, h3⟩
        have hmid := (HT1.out.wrote H2.out.2).1.new_ h3
        have H3 := Lib.hid (And.intro ho3 h3)
        clear ho3 h3
        go_wp2_with (at_builtin; go_loud (refine wpList_append_bytes_form rfl (.tmp 42) (.tmp 46) rfl (gw + 1) (.slice A1 F.length c1) F rfl hmid _ A3 c3 m rfl H3.out.1.bytes.1 (by omega) (Nat.le_trans (Nat.succ_le_of_lt H2.out.1.2.2.1) H3.out.2.size) ?_)
                     intro A4 c4 W4 ho4 hg4 hat4
                     rw [show (F ++ m).length = F.length + m.length by simp] at ho4 hat4 ⊢)
        have hT4 := HT1.out.step H2.out.1 H2.out.2 H3.out.2 ho4 hg4 hat4
        have HT4 := Lib.hid hT4
        clear ho4 hg4 hat4 hT4
        refine (wlen_any gw (F ++ m) W4 v1 HT4.out.wri).mono ?_
        rintro e w' ⟨rfl, rfl⟩
        rw [show (F ++ m).length = F.length + m.length by simp]
        go_wp2_with fail
        go_roundg (gk - 1)
        case measure => omega
        case rel => exact ⟨by omega, by rw [hgi.out]; congr 1, v1, by rw [hgi.out, HF.out, hf.out]; exact HT4.out⟩
      have b1 : (x.kind == 1) = false := by rw [beq_eq_false_iff_ne]; exact e1
      by_cases e2 : x.kind = 2
      · have hf : Hid (form1 x = leb x.v 8) := by unfold Hid form1; rw [if_neg e0]; rw [if_neg e1]; rw [if_pos e2]
        have hml := leb_length x.v 8
        have hrn := rfixform_any x.v
        have hwn := wfix_any gw x.v F W1 vw HT1.out.wri (by omega)
        generalize leb x.v 8 = m at hf hml hrn hwn
        have hrn := Lib.hid hrn
        have hwn := Lib.hid hwn
        replace hml : m.length ≤ 8 := by omega
        rw [e2] at x0
        go_wp2_with fail
        refine hwn.out.mono ?_
        rintro e W2 ⟨rfl, v1, hW, hG⟩
        have hX2 := HX.out.keep (hG.block p Hp.out.1 Hp.out.2.1 Hp.out.2.2)
        obtain ⟨_, y1, y2, y3⟩ := hX2
        have H2 := Lib.hid (And.intro hW hG)
        clear hW hG x0 x1 x2 x3
        go_wp2_with fail
        refine (hrn.out W2 hok.2.2.1).mono ?_
        rintro e W3 ⟨A3, c3, rfl, ho3, h3⟩
        have hmid := (HT1.out.wrote H2.out.2).1.new_ h3
        have H3 := Lib.hid (And.intro ho3 h3)
        clear ho3 h3
        go_wp2_with (at_builtin; go_loud (refine wpList_append_bytes_form rfl (.tmp 54) (.tmp 57) rfl (gw + 1) (.slice A1 F.length c1) F rfl hmid _ A3 c3 m rfl H3.out.1.bytes.1 (by omega) (Nat.le_trans (Nat.succ_le_of_lt H2.out.1.2.2.1) H3.out.2.size) ?_)
                     intro A4 c4 W4 ho4 hg4 hat4
                     rw [show (F ++ m).length = F.length + m.length by simp] at ho4 hat4 ⊢)
        have hT4 := HT1.out.step H2.out.1 H2.out.2 H3.out.2 ho4 hg4 hat4
        have HT4 := Lib.hid hT4
        clear ho4 hg4 hat4 hT4
        refine (wlen_any gw (F ++ m) W4 v1 HT4.out.wri).mono ?_
        rintro e w' ⟨rfl, rfl⟩
        rw [show (F ++ m).length = F.length + m.length by simp]
        go_wp2_with fail
        go_roundg (gk - 1)
        case measure => omega
        case rel => exact ⟨by omega, by rw [hgi.out]; congr 1, v1, by rw [hgi.out, HF.out, hf.out]; exact HT4.out⟩
      have b2 : (x.kind == 2) = false := by rw [beq_eq_false_iff_ne]; exact e2
      by_cases e3 : x.kind = 3
      · have hf : Hid (form1 x = num x.s.length ++ x.s) := by unfold Hid form1; rw [if_neg e0]; rw [if_neg e1]; rw [if_neg e2]; rw [if_pos e3]
        have hml : (num x.s.length ++ x.s).length ≤ 309 := by rw [List.length_append]; have := num_length x.s.length; omega
        have hrn := rtextform_any x.s
        have hwn := wtext_any gw x.s F W1 vw HT1.out.wri (by omega) (by omega)
        generalize num x.s.length ++ x.s = m at hf hml hrn hwn
        have hrn := Lib.hid hrn
        have hwn := Lib.hid hwn
        rw [e3] at x0
        go_wp2_with fail
        refine hwn.out.mono ?_
        rintro e W2 ⟨rfl, v1, hW, hG⟩
        have hX2 := HX.out.keep (hG.block p Hp.out.1 Hp.out.2.1 Hp.out.2.2)
        obtain ⟨_, y1, y2, y3⟩ := hX2
        have H2 := Lib.hid (And.intro hW hG)
        clear hW hG x0 x1 x2 x3
        go_wp2_with fail
        refine (hrn.out W2 (by omega)).mono ?_
        rintro e W3 ⟨A3, c3, rfl, ho3, h3⟩
        have hmid := (HT1.out.wrote H2.out.2).1.new_ h3
        have H3 := Lib.hid (And.intro ho3 h3)
        clear ho3 h3
        go_wp2_with (at_builtin; go_loud (refine wpList_append_bytes_form rfl (.tmp 65) (.tmp 68) rfl (gw + 1) (.slice A1 F.length c1) F rfl hmid _ A3 c3 m rfl H3.out.1.bytes.1 (by omega) (Nat.le_trans (Nat.succ_le_of_lt H2.out.1.2.2.1) H3.out.2.size) ?_)
                     intro A4 c4 W4 ho4 hg4 hat4
                     rw [show (F ++ m).length = F.length + m.length by simp] at ho4 hat4 ⊢)
        have hT4 := HT1.out.step H2.out.1 H2.out.2 H3.out.2 ho4 hg4 hat4
        have HT4 := Lib.hid hT4
        clear ho4 hg4 hat4 hT4
        refine (wlen_any gw (F ++ m) W4 v1 HT4.out.wri).mono ?_
        rintro e w' ⟨rfl, rfl⟩
        rw [show (F ++ m).length = F.length + m.length by simp]
        go_wp2_with fail
        go_roundg (gk - 1)
        case measure => omega
        case rel => exact ⟨by omega, by rw [hgi.out]; congr 1, v1, by rw [hgi.out, HF.out, hf.out]; exact HT4.out⟩
      have b3 : (x.kind == 3) = false := by rw [beq_eq_false_iff_ne]; exact e3
      by_cases e4 : x.kind = 4
      · have hf : Hid (form1 x = x.s) := by unfold Hid form1; rw [if_neg e0]; rw [if_neg e1]; rw [if_neg e2]; rw [if_neg e3]; rw [if_pos e4]
        have hrb := fun W => run_bytes W x.s
        have hT1' := HT1.out.later (na (nd (nr W1)) (rowS x.s (capS W1 x.s)))
        have hX1' := HX.out.keep (W' := W1.drew.alloc (rowS x.s (capS W1 x.s))) ((na (nd (nr W1)) (rowS x.s (capS W1 x.s))).block p Hp.out.1)
        have Hp' : Hid (p < (W1.drew.alloc (rowS x.s (capS W1 x.s))).heap.size ∧ p ≠ gw ∧ vw.ownBlock ≠ some p) := ⟨Nat.lt_of_lt_of_le Hp.out.1 (na (nd (nr W1)) (rowS x.s (capS W1 x.s))).size, Hp.out.2⟩
        have hwn := wraw_any gw (some ⟨W1.drew.heap.size, 0, none⟩) x.s.length (capS W1 x.s) x.s F _ vw hT1'.wri (Bytes.newS W1.drew x.s (capS W1 x.s)) rfl (by omega) (by omega)
        have HT1 := Lib.hid hT1'
        have HX := Lib.hid hX1'
        clear hT1' hX1' Hp
        have Hp := Hp'
        have hwn := Lib.hid hwn
        clear Hp'
        rw [e4] at x0
        go_wp2_with fail
        refine hwn.out.mono ?_
        rintro e W2 ⟨rfl, v1, hW, hG⟩
        have hX2 := HX.out.keep (hG.block p Hp.out.1 Hp.out.2.1 Hp.out.2.2)
        obtain ⟨_, y1, y2, y3⟩ := hX2
        have H2 := Lib.hid (And.intro hW hG)
        clear hW hG x0 x1 x2 x3
        have hmid := (HT1.out.wrote H2.out.2).1
        clear hrb
        go_wp2_with (at_builtin; go_loud (refine wpList_append_str rfl (.tmp 77) (.tmp 79) rfl (gw + 1) (.slice A1 F.length c1) F rfl hmid x.s rfl (by omega) (Nat.succ_le_of_lt H2.out.1.2.2.1) ?_)
                     intro A4 c4 W4 ho4 hg4 hat4
                     rw [show (F ++ x.s).length = F.length + x.s.length by simp] at ho4 hat4 ⊢)
        have hT4 := HT1.out.step H2.out.1 H2.out.2 (nr W2) ho4 hg4 hat4
        have HT4 := Lib.hid hT4
        clear ho4 hg4 hat4 hT4
        refine (wlen_any gw (F ++ x.s) W4 v1 HT4.out.wri).mono ?_
        rintro e w' ⟨rfl, rfl⟩
        rw [show (F ++ x.s).length = F.length + x.s.length by simp]
        go_wp2_with fail
        go_roundg (gk - 1)
        case measure => omega
        case rel => exact ⟨by omega, by rw [hgi.out]; congr 1, v1, by rw [hgi.out, HF.out, hf.out]; exact HT4.out⟩
      have b4 : (x.kind == 4) = false := by rw [beq_eq_false_iff_ne]; exact e4
      have hf : Hid (form1 x = []) := by unfold Hid form1; rw [if_neg e0]; rw [if_neg e1]; rw [if_neg e2]; rw [if_neg e3]; rw [if_neg e4]
      go_wp2_with fail
      refine (wlen_any gw F W1 vw HT1.out.wri).mono ?_
      rintro e w' ⟨rfl, rfl⟩
      go_wp2_with fail
      go_roundg (gk - 1)
      case measure => omega
      case rel => exact ⟨by omega, by rw [hgi.out]; congr 1, vw, by rw [hgi.out, HF.out, hf.out, List.append_nil]; exact HT1.out⟩
end Go.Proofs.Ytegpoghgddjmaaa
