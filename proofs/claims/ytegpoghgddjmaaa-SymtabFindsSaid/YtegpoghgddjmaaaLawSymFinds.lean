/- The law SymtabFinds, walked. -/
import Derived.Test.YtegpoghgddjmaaaSymAwake
import Derived.Test.YtegpoghgddjmaaaSymRBuild
import Derived.Test.YtegpoghgddjmaaaSymAll
import Derived.Deep.CutBlock
namespace Go.Proofs.Ytegpoghgddjmaaa
open Go.RowKit
set_option maxRecDepth 100000

theorem Strs.txt {w : World} {B : Nat} {A : Option Addr} {L : List (List UInt8)} {k : Nat} (h : Strs w B A L) (hk : k < L.length) : ∃ b off, A = some ⟨b, off, none⟩ ∧ b < B ∧ w.cell? ⟨b, off + k, none⟩ = some (S8 (txt L k)) ∧ L[k]? = some (txt L k) ∧ (txt L k).length ≤ 9223372036854775807 := by
  obtain ⟨b, off, l, e, h1, h2, h3, h4⟩ := h.get hk
  have hl : Go.Proofs.Ytegpoghgddjmaaa.txt L k = l := by unfold Go.Proofs.Ytegpoghgddjmaaa.txt; rw [List.getD_eq_getElem?_getD, h2]; rfl
  exact ⟨b, off, e, h1, by rw [hl]; exact h3, by rw [hl]; exact h2, by rw [hl]; exact h4⟩
theorem beginsN_snoc {L : List (List UInt8)} {k : Nat} {x s : List UInt8} (h : L[k]? = some x) : beginsN (L.take (k + 1)) s = beginsN (L.take k) s + (if beginsS x s = true then 1 else 0) := by
  unfold beginsN
  rw [List.take_add_one, h, List.countP_append]
  show _ + List.countP _ [x] = _
  rw [List.countP_singleton]
theorem beginsN_le (L : List (List UInt8)) (s : List UInt8) (k : Nat) : beginsN (L.take k) s ≤ k := by
  unfold beginsN
  exact Nat.le_trans (List.countP_le_length ..) (by rw [List.length_take]; omega)
def atB (L : List (List UInt8)) (z : Int) : Bool := decide (0 ≤ z) && decide (z < (L.length : Int))
def atX (L : List (List UInt8)) (z : Int) : List UInt8 := if atB L z = true then txt L z.toNat else []
theorem atB_yes {L : List (List UInt8)} {z : Int} (h : 0 ≤ z ∧ z < (L.length : Int)) : atB L z = true := by unfold atB; rw [decide_eq_true h.1, decide_eq_true h.2]; rfl
theorem atB_no {L : List (List UInt8)} {z : Int} (h : ¬ (0 ≤ z ∧ z < (L.length : Int))) : atB L z = false := by
  cases hb : atB L z with
  | false => rfl
  | true =>
    unfold atB at hb
    rw [Bool.and_eq_true, decide_eq_true_iff, decide_eq_true_iff] at hb
    exact absurd hb h
theorem at_any_ (g : Nat) (L : List (List UInt8)) (v : Value) (xs : List Value) (w : World) (z : Int) (hT : Tab w g L v xs) (hl : L.length ≤ 4096) :
    Calls Try.prog 66 #[.pointer (some ⟨g, 0, none⟩), .int .i64 z] w fun e w' => e = .returned (.tuple #[S8 (atX L z), .bool (atB L z)]) ∧ Below w.heap.size w w' := by
  by_cases h : 0 ≤ z ∧ z < (L.length : Int)
  · have hb := atB_yes h
    have hx : atX L z = txt L z.toNat := by unfold atX; rw [if_pos hb]
    have hc := at_yes g z.toNat L v xs w hT (by omega) hl
    rw [show ((z.toNat : Nat) : Int) = z by omega] at hc
    rw [hb, hx]
    exact hc
  · have hb := atB_no h
    have hx : atX L z = [] := by unfold atX; rw [hb]; rfl
    rw [hb, hx]
    exact (at_no g L v xs w z hT (by omega)).mono fun e w' ⟨h1, h2⟩ => ⟨h1, h2 ▸ nr w⟩
set_option maxHeartbeats 16000000 in
theorem symtabFinds_law (A : Option Addr) (n cap : Nat) (L : List (List UInt8)) (s : List UInt8) (z : Int) (w : World) (hA : Strs w w.heap.size A L) (hn : L.length = n) (hs : s.length ≤ 9223372036854775807) (hz1 : -9223372036854775808 ≤ z) (hz2 : z ≤ 9223372036854775807) :
    Calls Try.prog 11 #[.slice A n cap, S8 s, .int .i64 z] w fun e w' => e = .returned (.bool true) ∧ Below w.heap.size w w' := by
  have HA := Lib.hid (And.intro hA hn)
  clear hA hn
  go_enter Try.func11, Try.ntmps11
  go_wp2_with fail
  refine (awake34_any w).mono ?_
  rintro e w1 ⟨rfl, hb1⟩
  have H1 := Lib.hid hb1
  clear hb1
  go_wp2_with fail
  refine (rfew_any A n cap L w1 (HA.out.1.below H1.out H1.out.size) HA.out.2).mono ?_
  rintro e w2 ⟨rfl, hf⟩
  rcases hf with rfl | ⟨rfl, hf⟩
  · go_wp2_with fail
    go_ret
    exact ⟨rfl, H1.out⟩
  have Hf := Lib.hid hf
  clear hf
  have hn60 : n ≤ 60 := by rw [← HA.out.2]; exact Hf.out.1
  by_cases hs5 : 500 < s.length
  · have hs5i : (500 : Int) < (s.length : Int) := by omega
    go_wp2_with fail
    go_ret
    exact ⟨rfl, H1.out⟩
  have hs5i : (s.length : Int) ≤ 500 := by omega
  go_wp2_with fail
  refine (build_any A n cap L w2 (HA.out.1.below H1.out H1.out.size) HA.out.2 (by omega)).mono ?_
  rintro e w3 ⟨A3, n3, c3, rfl, ho3, hb3⟩
  obtain ⟨hby3, hn3, hc3⟩ := build_bytes ho3
  have H3 := Lib.hid (And.intro (nt H1.out hb3) (And.intro hby3 (And.intro hn3 hc3)))
  clear ho3 hb3 hby3 hn3 hc3
  have Hopen := Lib.hid (open_any A3 n3 c3 (buildR L) w3 H3.out.2.1 H3.out.2.2.1 (by rw [← H3.out.2.2.1]; exact buildR_len L) H3.out.2.2.2)
  by_cases hE : buildE L = 0
  · have HE := Lib.hid hE
    rw [hE]
    clear hE
    have HL := Lib.hid (build_order HE.out).1
    go_wp2_with fail
    refine Hopen.out.mono ?_
    rintro e w5 hpost
    obtain ⟨g, v, xs, rfl, hT, hl, hb5⟩ := hpost.yes (buildR_built HE.out)
    have H5 := Lib.hid (And.intro (nt H3.out.1 hb5) hT)
    clear hpost hT hb5
    have Hat := Lib.hid (at_any_ g L v xs w5 z H5.out.2 hl)
    go_wp2_with fail
    refine Hat.out.mono ?_
    rintro e w6 ⟨rfl, hb6⟩
    have H6 := Lib.hid (And.intro (nt H5.out.1 hb6) (H5.out.2.new_ hb6))
    clear hb6 Hat
    obtain ⟨X, hX⟩ : ∃ X, atX L z = X := ⟨_, rfl⟩
    obtain ⟨B, hB⟩ : ∃ B, atB L z = B := ⟨_, rfl⟩
    rw [hX, hB]
    have HX := Lib.hid (And.intro hX hB)
    clear hX hB
    go_upto_region 10 with fail
    go_cut [82] from 54 to 82 (fun s82 wx => s82 = .bool false ∧ wx = w6)
    case first =>
      by_cases hz0 : z < 0
      · have hb := atB_no (L := L) (z := z) (by omega)
        have hx : atX L z = [] := by unfold atX; rw [hb]; rfl
        obtain rfl : B = false := by rw [← HX.out.2]; exact hb
        obtain rfl : X = [] := by rw [← HX.out.1]; exact hx
        clear hb hx
        go_wp2_with fail
        go_meet
        case rel => exact ⟨rfl, rfl⟩
      have hz0' : 0 ≤ z := by omega
      by_cases hzn : z < (n : Int)
      · obtain ⟨k, rfl⟩ : ∃ k : Nat, z = k := ⟨z.toNat, by omega⟩
        have hkn : k < n := by omega
        have hb := atB_yes (L := L) (z := (k : Int)) ⟨hz0', by rw [HA.out.2]; exact hzn⟩
        have hx : atX L (k : Int) = txt L k := by unfold atX; rw [if_pos hb]; rfl
        obtain rfl : B = true := by rw [← HX.out.2]; exact hb
        obtain rfl : X = txt L k := by rw [← HX.out.1]; exact hx
        obtain ⟨b, off, rfl, _, hc, _, _⟩ := (HA.out.1.below H6.out.1 H6.out.1.size).txt (k := k) (by rw [HA.out.2]; exact hkn)
        clear hb hx HX
        generalize txt L k = X at *
        go_wp2_with fail
        go_meet
        case rel => exact ⟨rfl, rfl⟩
      · have hzn' : (n : Int) ≤ z := by omega
        have hb := atB_no (L := L) (z := z) (by rw [HA.out.2]; omega)
        have hx : atX L z = [] := by unfold atX; rw [hb]; rfl
        obtain rfl : B = false := by rw [← HX.out.2]; exact hb
        obtain rfl : X = [] := by rw [← HX.out.1]; exact hx
        clear hb hx
        go_wp2_with fail
        go_meet
        case rel => exact ⟨rfl, rfl⟩
    case rest =>
      obtain ⟨rfl, rfl⟩ := hcut
      clear HX
      go_wp2_with fail
      refine (rbelow_any A n cap L s wc (HA.out.1.below H6.out.1 H6.out.1.size) HA.out.2 (by omega)).mono ?_
      rintro e w7 ⟨rfl, rfl⟩
      go_wp2_with fail
      refine (find_any g L s v xs w7 H6.out.2 hl HL.out).mono ?_
      rintro e w8 ⟨rfl, hb8⟩
      have H8 := Lib.hid (And.intro (nt H6.out.1 hb8) (H6.out.2.new_ hb8))
      clear hb8
      have Hbel := Lib.hid (below_any g L s v xs w8 H8.out.2 hl HL.out)
      obtain ⟨fi, hfi⟩ : ∃ i, (if foundS L s = true then belowS L s else 0) = i := ⟨_, rfl⟩
      obtain ⟨bw, hbw⟩ : ∃ b, belowS L s = b := ⟨_, rfl⟩
      obtain ⟨F, hF⟩ : ∃ F, foundS L s = F := ⟨_, rfl⟩
      rw [hfi, hbw, hF]
      have HB := Lib.hid (And.intro hfi (And.intro hbw hF))
      have hbwl : bw ≤ n := by rw [← hbw, ← HA.out.2]; exact belowS_len L s
      clear hfi hbw hF
      go_upto_region 14 with fail
      go_cut [128] from 92 to 128 (fun s128 wx => s128 = .bool false ∧ Hid (Below w.heap.size w wx ∧ Tab wx g L v xs))
      case first =>
        by_cases hbn : bw < n
        · have hbni : (bw : Int) < (n : Int) := by omega
          obtain ⟨b, off, rfl, _, hc, _, _⟩ := (HA.out.1.below H8.out.1 H8.out.1.size).txt (k := bw) (by rw [HA.out.2]; exact hbn)
          cases hxs : (txt L bw == s) with
          | true =>
            have hF : foundS L s = true := by unfold foundS; rw [HB.out.2.1, hxs, decide_eq_true (by rw [HA.out.2]; exact hbn)]; rfl
            obtain rfl : F = true := by rw [← HB.out.2.2]; exact hF
            obtain rfl : fi = bw := by rw [← HB.out.1, if_pos hF]; exact HB.out.2.1
            have hXs : txt L fi = s := by simpa using hxs
            rw [hXs] at hc
            clear hF hxs hXs
            go_wp2_with fail
            refine Hbel.out.mono ?_
            rintro e w9 ⟨rfl, hb9⟩
            rw [HB.out.2.1]
            go_wp2_with fail
            go_meet
            case rel => exact ⟨rfl, nt H8.out.1 hb9, H8.out.2.new_ hb9⟩
          | false =>
            have hF : foundS L s = false := by unfold foundS; rw [HB.out.2.1, hxs, Bool.and_false]
            obtain rfl : F = false := by rw [← HB.out.2.2]; exact hF
            obtain rfl : fi = 0 := by rw [← HB.out.1, hF]; rfl
            generalize txt L bw = X at *
            clear hF
            go_wp2_with fail
            refine Hbel.out.mono ?_
            rintro e w9 ⟨rfl, hb9⟩
            rw [HB.out.2.1]
            go_wp2_with fail
            go_meet
            case rel => exact ⟨rfl, nt H8.out.1 hb9, H8.out.2.new_ hb9⟩
        · have hbni : (n : Int) ≤ (bw : Int) := by omega
          have hF : foundS L s = false := by unfold foundS; rw [HB.out.2.1, decide_eq_false (by rw [HA.out.2]; exact hbn), Bool.false_and]
          obtain rfl : F = false := by rw [← HB.out.2.2]; exact hF
          obtain rfl : fi = 0 := by rw [← HB.out.1, hF]; rfl
          clear hF
          go_wp2_with fail
          refine Hbel.out.mono ?_
          rintro e w9 ⟨rfl, hb9⟩
          rw [HB.out.2.1]
          go_wp2_with fail
          go_meet
          case rel => exact ⟨rfl, nt H8.out.1 hb9, H8.out.2.new_ hb9⟩
      case rest =>
        obtain ⟨rfl, H9⟩ := hcut
        clear H6 H8 Hbel
        go_wp2_with fail
        go_loop [16, 17] (fun c i => ∃ k : Nat, k ≤ n ∧ i = .int .i64 k ∧ c = .int .i64 (beginsN (L.take k) s : Nat)) (fun c i => n - (intOf i).toNat)
        case atStart => exact ⟨0, Nat.zero_le _, rfl, rfl⟩
        case round =>
          obtain ⟨k, hk, rfl, rfl⟩ := hrel
          by_cases hend : k = n
          · subst hend
            have hz := Lib.hid (show beginsN (L.take k) s = beginsN L s by rw [List.take_of_length_le (by rw [HA.out.2]; omega)])
            rw [hz.out]
            have HPF := Lib.hid (prefix_any g L s v xs wc H9.out.2 hl HL.out)
            have hbl : beginsN L s ≤ k := by rw [← HA.out.2]; exact List.countP_le_length
            go_wp2_with fail
            refine HPF.out.mono ?_
            rintro e w9 ⟨rfl, hb9⟩
            have H10 := Lib.hid (nt H9.out.1 hb9)
            clear hb9 HPF hz
            rw [HB.out.2.1]
            generalize beginsN L s = C at *
            have hsum : ((bw + C : Nat) : Int) = (bw : Int) + (C : Int) := by omega
            rw [hsum]
            clear hsum
            have hbw60 : (bw : Int) ≤ 60 := by omega
            have hC60 : (C : Int) ≤ 60 := by omega
            go_wp2_with fail
            go_ret
            exact ⟨rfl, H10.out⟩
          · have hkn : k < n := by omega
            have hki : (k : Int) < (n : Int) := by omega
            obtain ⟨b, off, rfl, _, hc, hx, _⟩ := (HA.out.1.below H9.out.1 H9.out.1.size).txt (k := k) (by rw [HA.out.2]; exact hkn)
            have Hs := Lib.hid (beginsN_snoc (s := s) hx)
            have hle : beginsN (L.take k) s ≤ k := beginsN_le L s k
            have Hbg := Lib.hid (rbegins_any (txt L k) s wc)
            clear hx
            generalize txt L k = X at *
            obtain ⟨C, hC⟩ : ∃ C, beginsN (L.take k) s = C := ⟨_, rfl⟩
            rw [hC] at Hs hle ⊢
            clear hC
            cases hbs : beginsS X s with
            | true =>
              rw [hbs] at Hs Hbg
              have Hs := Lib.hid (show beginsN (L.take (k + 1)) s = C + 1 from Hs.out)
              clear hbs
              go_wp2_with fail
              refine Hbg.out.mono ?_
              rintro e w10 ⟨rfl, rfl⟩
              go_wp2_with fail
              go_round
              case rel => exact ⟨k + 1, by omega, by go_num, by rw [Hs.out]; go_num⟩
              case measure => simp [intOf]; omega
            | false =>
              rw [hbs] at Hs Hbg
              have Hs := Lib.hid (show beginsN (L.take (k + 1)) s = C from Hs.out)
              clear hbs
              go_wp2_with fail
              refine Hbg.out.mono ?_
              rintro e w10 ⟨rfl, rfl⟩
              go_wp2_with fail
              go_round
              case rel => exact ⟨k + 1, by omega, by go_num, by rw [Hs.out]⟩
              case measure => simp [intOf]; omega
  · have hq : (buildE L == 0) = false := by rw [beq_eq_false_iff_ne]; exact hE
    have hq2 : (buildE L != 0) = true := by rw [bne_iff_ne]; exact hE
    clear hE
    generalize buildE L = E at *
    go_wp2_with fail
    refine Hopen.out.mono ?_
    rintro e w5 ⟨hb5, h⟩
    have H5 := Lib.hid (nt H3.out.1 hb5)
    rcases h with ⟨_, rfl⟩ | ⟨_, g, v, xs, rfl, _⟩
    all_goals (
      go_wp2_with fail
      go_ret
      exact ⟨rfl, H5.out⟩)
end Go.Proofs.Ytegpoghgddjmaaa
