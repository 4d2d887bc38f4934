/- The law SymtabOpens, walked. -/
import Derived.Test.YtegpoghgddjmaaaSymAwake
import Derived.Test.YtegpoghgddjmaaaSymROpen
import Derived.Deep.RegionWith
namespace Go.Proofs.Ytegpoghgddjmaaa
open Go.RowKit
set_option maxRecDepth 100000

theorem OwnS.len {w : World} {base n c : Nat} {A : Option Addr} {L : List (List UInt8)} (h : OwnS w base (.slice A n c) L) : n = L.length := by
  rcases h.2 with ⟨hv, h0⟩ | ⟨g, cap, cur, hv, _⟩
  · injection hv with _ h2; omega
  · injection hv
theorem row_alloc (W : World) (a b : Value) (t : TypeId) : (W.alloc (.cells #[a, b] t)).cell? ⟨W.heap.size, 0, none⟩ = some a ∧ (W.alloc (.cells #[a, b] t)).cell? ⟨W.heap.size, 1, none⟩ = some b :=
  ⟨cell_of_row _ _ _ _ _ _ (heap_alloc_new W _), cell_of_row _ _ _ _ _ _ (heap_alloc_new W _)⟩
set_option maxHeartbeats 8000000 in
theorem symtabOpens_law (A : Option Addr) (n cap : Nat) (l : List UInt8) (w : World) (hA : Bytes w w.heap.size A l) (hn : l.length = n) (hc : (A = none → cap = 0) ∧ n ≤ cap ∧ cap ≤ 9223372036854775807) :
    Calls Try.prog 14 #[.slice A n cap] w fun e w' => e = .returned (.bool true) ∧ Below w.heap.size w w' := by
  have HA := Lib.hid (And.intro hA (And.intro hn hc))
  clear hA hn hc
  go_enter Try.func14, Try.ntmps14
  go_wp2_with fail
  refine (awake34_any w).mono ?_
  rintro e w1 ⟨rfl, hb1⟩
  have H1 := Lib.hid hb1
  clear hb1
  by_cases h1000 : 1000 < n
  · have h1000i : (1000 : Int) < (n : Int) := by omega
    go_wp2_with fail
    go_ret
    exact ⟨rfl, H1.out⟩
  have h1000i : (n : Int) ≤ 1000 := by omega
  go_wp2_with fail
  refine (open_any A n cap l w1 ((HA.out.1.below H1.out).more H1.out.size) HA.out.2.1 (by omega) HA.out.2.2.1).mono ?_
  rintro e w2 hpost
  have HP := Lib.hid hpost
  obtain ⟨hb2, h⟩ := hpost
  have H2 := Lib.hid (nt H1.out hb2)
  clear hb2
  have Hro := Lib.hid (ropen_any A n cap l w2 ((HA.out.1.below H2.out).more H2.out.size) HA.out.2.1 HA.out.2.2.2 (by omega))
  rcases h with ⟨hE, rfl⟩ | ⟨hE, g, v, xs, rfl, hT, hl4⟩
  · obtain ⟨E, hEE⟩ : ∃ E, (openS l).1 = E := ⟨_, rfl⟩
    rw [hEE] at hE ⊢
    have HE := Lib.hid hEE
    have hq : (E == 0) = false := by rw [beq_eq_false_iff_ne]; exact hE
    have hq2 : (E != 0) = true := by rw [bne_iff_ne]; exact hE
    clear hE HP hEE
    go_wp2_with fail
    refine Hro.out.mono ?_
    rintro e w3 ⟨A3, n3, c3, rfl, ho3, hb3⟩
    rw [HE.out]
    have H3 := Lib.hid (nt H2.out hb3)
    clear ho3 hb3
    obtain ⟨m0, m1⟩ := row_alloc w3 (.slice A3 n3 c3) (.int .i64 E) 98
    go_wp2_with fail
    go_ret
    exact ⟨rfl, na H3.out _⟩
  · obtain ⟨L, hL⟩ : ∃ L, openS l = (0, L) := ⟨(openS l).2, by rw [← hE]⟩
    have hgot : gotL l = L := by unfold gotL; rw [hL]; rfl
    rw [hL] at hT hl4
    have hbo := build_opened hL
    have hbr : buildR L = l := by unfold buildR; rw [if_pos hbo.1]; exact hbo.2
    have HL := Lib.hid (And.intro hL (And.intro hgot (And.intro hbo.1 (And.intro hbr (fun (j : Nat) (x : List UInt8) (hj : L[j]? = some x) => show x.length ≤ 9223372036854775807 by have := (build_order hbo.1).2.1 x (List.mem_of_getElem? hj); omega)))))
    have HT := Lib.hid hT
    clear hL hgot hbo hbr hT hE HP
    have hl4' : L.length ≤ 4096 := hl4
    clear hl4
    go_wp2_with fail
    refine Hro.out.mono ?_
    rintro e w3 ⟨A3, n3, c3, rfl, ho3, hb3⟩
    rw [HL.out.2.1] at ho3
    rw [show (openS l).1 = 0 by rw [HL.out.1]]
    have H3 := Lib.hid (And.intro (nt H2.out hb3) (And.intro (OwnS.strs ho3 HL.out.2.2.2.2) (And.intro (OwnS.len ho3).symm (HT.out.new_ hb3))))
    clear ho3 hb3
    obtain ⟨m0, m1⟩ := row_alloc w3 (.slice A3 n3 c3) (.int .i64 0) 98
    have ha := na (nr w3) (.cells #[.slice A3 n3 c3, .int .i64 0] 98)
    have Hall := Lib.hid (all_any g L v xs _ (H3.out.2.2.2.new_ ha) hl4')
    have H4 := Lib.hid (And.intro (nt H3.out.1 ha) (And.intro ((H3.out.2.1.below ha ha.size)) (H3.out.2.2.2.new_ ha)))
    have hp : Hid (w3.heap.size < (w3.alloc (.cells #[.slice A3 n3 c3, .int .i64 0] 98)).heap.size) := show _ < _ by simp
    clear ha
    go_upto_region 7 with fail
    generalize (w3.alloc (.cells #[.slice A3 n3 c3, .int .i64 0] 98)) = w4 at *
    generalize w3.heap.size = p at *
    go_wp2_with fail
    refine Hall.out.mono ?_
    rintro e w5 ⟨A5, c5, rfl, ho5, hb5⟩
    have H5 := Lib.hid (And.intro hb5 (And.intro (OwnS.strs ho5 HL.out.2.2.2.2) trivial))
    clear ho5 hb5
    go_wp2_with fail
    refine (build_any A5 L.length c5 L w5 H5.out.2.1 rfl (by omega)).mono ?_
    rintro e w6 ⟨A6, n6, c6, rfl, ho6, hb6⟩
    rw [HL.out.2.2.1]
    rw [HL.out.2.2.2.1] at ho6
    obtain ⟨hby6, hn6, hc6⟩ := build_bytes ho6
    have H6 := Lib.hid (And.intro (nt H5.out.1 hb6) (And.intro hby6 hn6))
    clear ho6 hb6 hby6 hn6 hc6
    have Call := Lib.hid (fun W (h : Below w6.heap.size w6 W) => all_any g L v xs W (H4.out.2.2.new_ (nt H6.out.1 h)) hl4')
    have csame : ∀ W A7 c7, Below w6.heap.size w6 W → Strs W W.heap.size A7 L → Calls Try.prog 74 #[.slice A7 L.length c7, .slice A3 n3 c3] W (fun e w' => e = .returned (.bool true) ∧ Below W.heap.size W w') := fun W A7 c7 h hs => by
      have h2 := rsames_any A7 A3 L.length n3 c7 c3 L L W hs (H4.out.2.1.below (nt H6.out.1 h) (nt H6.out.1 h).size) rfl H3.out.2.2.1 (by omega)
      rw [decide_eq_true (rfl : L = L)] at h2
      exact h2
    have Csame := Lib.hid csame
    have Cr6 := Lib.hid (fun W (h : Below w6.heap.size w6 W) => run_str W _ A6 n6 c6 l ((H6.out.2.1.below h).more h.size) H6.out.2.2)
    have Cr0 := Lib.hid (fun W (h : Below w6.heap.size w6 W) => run_str W _ A n cap l (HA.out.1.below (H4.out.1.trans ((nt H6.out.1 h).mono H4.out.1.size))) HA.out.2.1)
    have hm0 : Hid (w4.cell? ⟨p, 0, none⟩ = some (.slice A3 n3 c3)) := m0
    have Cm := Lib.hid (fun W (h : Below w6.heap.size w6 W) => ((nt H6.out.1 h).cell (p := ⟨p, 0, none⟩) hp.out).trans hm0.out)
    clear csame m0 m1
    have hcur := nd (nr w6)
    have r6 := Cr6.out _ hcur
    have r0 := Cr0.out _ hcur
    have m0 := Cm.out _ hcur
    go_wp2_with fail
    go_region_with (first
      | (go_at_call 75; refine (Call.out _ hcur).mono ?_; rintro e W7 ⟨A7, c7, rfl, ho7, hb7⟩; have hcur := nt hcur hb7; have hs7 := OwnS.strs ho7 HL.out.2.2.2.2; have r6 := Cr6.out _ hcur; have r0 := Cr0.out _ hcur; have m0 := Cm.out _ hcur; clear ho7 hb7)
      | (go_at_call 74; refine (Csame.out _ _ _ hcur hs7).mono ?_; rintro e W8 ⟨rfl, hb8⟩; have hcur := nt hcur hb8; have r6 := Cr6.out _ hcur; have r0 := Cr0.out _ hcur; have m0 := Cm.out _ hcur; clear hb8))
    all_goals (
      go_wp2_with fail
      go_ret
      refine ⟨?_, H4.out.1.trans ((nt H6.out.1 hcur).mono H4.out.1.size)⟩
      first
        | rfl
        | (simp [Act.put]; done))
end Go.Proofs.Ytegpoghgddjmaaa
