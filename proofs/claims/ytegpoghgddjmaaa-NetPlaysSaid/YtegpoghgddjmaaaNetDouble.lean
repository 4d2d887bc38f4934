/- The walk of net.Double. -/
import Derived.Test.YtegpoghgddjmaaaNetLook
namespace Go.Proofs.Ytegpoghgddjmaaa
open Go.RowKit
set_option maxRecDepth 100000

theorem OwnN.form {w : World} {g : Nat} {v : Value} {M : List Ms} (hN : OwnN w g v M) : ∃ A0 c0, v = .slice A0 M.length c0 := by
  rcases hN.row.2 with ⟨h1, h2⟩ | ⟨q, cap, cur, h1, _⟩
  · exact ⟨none, 0, by rw [h1, h2]⟩
  · exact ⟨_, _, h1⟩
theorem ndouble_no (g : Nat) (v : Value) (M : List Ms) (i : Int) (w : World) (hN : OwnN w g v M) (hi : i < 0 ∨ (M.length : Int) ≤ i) :
    Calls Try.prog 41 #[.pointer (some ⟨g, 0, none⟩), .int .i64 i] w fun e w' => w' = w ∧ e = .returned (.bool false) := by
  obtain ⟨A0, c0, rfl⟩ := hN.form
  go_enter Try.func41, Try.ntmps41
  go_wp2_with fail
  refine (nhas_any g A0 M.length c0 i _ hN.c).mono ?_
  rintro e w' ⟨rfl, rfl⟩
  rw [decide_eq_false (by omega)]
  go_wp2_with fail
  go_ret
  exact ⟨rfl, rfl⟩
set_option maxHeartbeats 2000000 in
theorem ndouble_full (g : Nat) (v : Value) (M : List Ms) (i : Nat) (m : Ms) (w : World) (hN : OwnN w g v M) (hm : M[i]? = some m) (hl : m.n ≤ 140737488355328) (hM : M.length = 4096) :
    Calls Try.prog 41 #[.pointer (some ⟨g, 0, none⟩), .int .i64 i] w (NSendNo g v M w) := by
  have hlt := (List.getElem?_eq_some_iff.1 hm).1
  obtain ⟨q, c, rfl, hgq, hqs, k0, k1, k2⟩ := hN.cells hm
  have c1 := hN.c
  have hltI : (i : Int) < (M.length : Int) := by omega
  have HN := Lib.hid hN
  clear hN
  go_enter Try.func41, Try.ntmps41
  go_wp2_with fail
  refine (nhas_any g _ M.length c i _ HN.out.c).mono ?_
  rintro e w' ⟨rfl, rfl⟩
  rw [decide_eq_true (by omega)]
  go_wp2_with fail
  refine (nsend_no g _ M m.a m.h m.A m.n m.c w' HN.out (by omega) (.inl hM)).mono ?_
  rintro e w2 ⟨rfl, hN2, hb2⟩
  have H2 := Lib.hid (And.intro hN2 hb2)
  clear hN2 hb2 k0 k1 k2 c1
  go_wp2_with fail
  go_ret
  exact ⟨rfl, H2.out⟩
set_option maxHeartbeats 2000000 in
theorem ndouble_yes (g : Nat) (v : Value) (M : List Ms) (i : Nat) (m : Ms) (w : World) (hN : OwnN w g v M) (hm : M[i]? = some m) (hl : m.n ≤ 140737488355328) (hM : M.length < 4096) (hr : rightS m.a m.h m.n = true) :
    Calls Try.prog 41 #[.pointer (some ⟨g, 0, none⟩), .int .i64 i] w (NSendYes g v M m.a m.h m.n m.l w) := by
  have hlt := (List.getElem?_eq_some_iff.1 hm).1
  obtain ⟨q, c, rfl, hgq, hqs, k0, k1, k2⟩ := hN.cells hm
  have c1 := hN.c
  have hltI : (i : Int) < (M.length : Int) := by omega
  have hdat := hN.data m (List.mem_of_getElem? hm)
  have HN := Lib.hid (And.intro hN hdat)
  clear hN hdat
  go_enter Try.func41, Try.ntmps41
  go_wp2_with fail
  refine (nhas_any g _ M.length c i _ HN.out.1.c).mono ?_
  rintro e w' ⟨rfl, rfl⟩
  rw [decide_eq_true (by omega)]
  go_wp2_with fail
  refine (nsend_yes g _ M m.a m.h m.A m.n m.c m.l w' HN.out.1 HN.out.2.1 HN.out.2.2.1 HN.out.2.2.2 hM hr hl).mono ?_
  rintro e w2 ⟨rfl, h2⟩
  have H2 := Lib.hid h2
  clear h2 k0 k1 k2 c1
  go_wp2_with fail
  go_ret
  exact ⟨rfl, H2.out⟩
end Go.Proofs.Ytegpoghgddjmaaa
