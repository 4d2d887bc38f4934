/- The law SymtabBuilds, walked. -/
import Derived.Test.YtegpoghgddjmaaaSymAwake
import Derived.Test.YtegpoghgddjmaaaSymRBuild
import Derived.Test.YtegpoghgddjmaaaSymAll
namespace Go.Proofs.Ytegpoghgddjmaaa
open Go.RowKit
set_option maxRecDepth 100000

set_option maxHeartbeats 4000000 in
theorem symtabBuilds_law (A : Option Addr) (n cap : Nat) (L : List (List UInt8)) (w : World) (hA : Strs w w.heap.size A L) (hn : L.length = n) :
    Calls Try.prog 13 #[.slice A n cap] w fun e w' => e = .returned (.bool true) ∧ Below w.heap.size w w' := by
  have HA := Lib.hid (And.intro hA hn)
  clear hA hn
  go_enter Try.func13, Try.ntmps13
  go_wp2_with fail
  refine (awake34_any w).mono ?_
  rintro e w1 ⟨rfl, hb1⟩
  have H1 := Lib.hid hb1
  clear hb1
  go_wp2_with fail
  refine (rfew_any A n cap L w1 (HA.out.1.below H1.out H1.out.size) HA.out.2).mono ?_
  rintro e w2 ⟨rfl, hf⟩
  rcases hf with rfl | ⟨rfl, hf⟩
  · go_wp2_with fail
    go_ret
    exact ⟨rfl, H1.out⟩
  have Hf := Lib.hid hf
  clear hf
  have hn60 : n ≤ 60 := by rw [← HA.out.2]; exact Hf.out.1
  go_wp2_with fail
  refine (build_any A n cap L w2 (HA.out.1.below H1.out H1.out.size) HA.out.2 (by omega)).mono ?_
  rintro e w3 ⟨A3, n3, c3, rfl, ho3, hb3⟩
  obtain ⟨hby3, hn3, hc3⟩ := build_bytes ho3
  have H3 := Lib.hid (And.intro (nt H1.out hb3) (And.intro hby3 (And.intro hn3 hc3)))
  clear ho3 hb3 hby3 hn3 hc3
  go_wp2_with fail
  refine (rbuild_any A n cap L w3 (HA.out.1.below H3.out.1 H3.out.1.size) HA.out.2 (by omega)).mono ?_
  rintro e w4 ⟨A4, n4, c4, rfl, ho4, hb4⟩
  obtain ⟨hby4, hn4, hc4⟩ := build_bytes ho4
  have H4 := Lib.hid (And.intro (nt H3.out.1 hb4) (And.intro hn4 (And.intro ((H3.out.2.1.below hb4).more hb4.size) trivial)))
  have r3 := run_str w4 _ A3 n3 c3 _ ((H3.out.2.1.below hb4).more hb4.size) H3.out.2.2.1
  have r4 := run_str w4 _ A4 n4 c4 _ hby4 H4.out.2.1
  clear ho4 hb4 hby4 hn4 hc4
  have Hopen := Lib.hid (open_any A3 n3 c3 (buildR L) w4 H4.out.2.2.1 H3.out.2.2.1 (by rw [← H3.out.2.2.1]; exact buildR_len L) H3.out.2.2.2)
  by_cases hE : buildE L = 0
  · have HE := Lib.hid hE
    rw [hE]
    clear hE
    generalize buildR L = R at r3 r4 ⊢
    go_wp2_with fail
    refine Hopen.out.mono ?_
    rintro e w5 hpost
    obtain ⟨g, v, xs, rfl, hT, hl, hb5⟩ := hpost.yes (buildR_built HE.out)
    have H5 := Lib.hid (And.intro (nt H4.out.1 hb5) (And.intro hT hl))
    clear hpost hT hl hb5 r3 r4
    have Hlen := Lib.hid (len_any g L v xs w5 H5.out.2.1)
    rw [HA.out.2] at Hlen
    go_wp2_with fail
    refine Hlen.out.mono ?_
    rintro e w6 ⟨rfl, rfl⟩
    go_wp2_with fail
    refine (all_any g L v xs w5 H5.out.2.1 H5.out.2.2).mono ?_
    rintro e w7 ⟨A7, c7, rfl, ho7, hb7⟩
    have H7 := Lib.hid (And.intro (nt H5.out.1 hb7) (OwnS.strs ho7 (fun j l hj => by have := Hf.out.2 j l hj; omega)))
    clear ho7 hb7
    have hsame := rsames_any A7 A L.length n c7 cap L L w7 H7.out.2 (HA.out.1.below H7.out.1 H7.out.1.size) rfl HA.out.2 (by have := HA.out.2; omega)
    rw [decide_eq_true (rfl : L = L)] at hsame
    have Hsame := Lib.hid hsame
    clear hsame
    rw [HA.out.2] at Hsame ⊢
    go_wp2_with fail
    refine Hsame.out.mono ?_
    rintro e w8 ⟨rfl, hb8⟩
    have H8 := Lib.hid (nt H7.out.1 hb8)
    clear hb8
    go_wp2_with fail
    go_ret
    exact ⟨rfl, H8.out⟩
  · have hq : (buildE L == 0) = false := by rw [beq_eq_false_iff_ne]; exact hE
    clear hE
    generalize buildE L = E at *
    generalize buildR L = R at r3 r4 ⊢
    go_wp2_with fail
    go_ret
    exact ⟨rfl, H4.out.1⟩
end Go.Proofs.Ytegpoghgddjmaaa
