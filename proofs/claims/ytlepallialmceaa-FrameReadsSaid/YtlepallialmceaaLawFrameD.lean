/- The walk of the frame law FrameReads. -/
import Derived.Test.YtlepallialmceaaSame
import Derived.Test.YtlepallialmceaaLawFrameA
namespace Go.Proofs.Ytlepallialmceaa
open Go.RowKit

theorem IsRow.caps {k : IntKind} {w : World} {a : Option Addr} {len cap : Nat} {zs : List Int} (h : IsRow k w a len cap zs) : len ≤ cap ∧ cap ≤ 9223372036854775807 := by
  rcases h with ⟨_, rfl, rfl, _⟩ | ⟨_, _, h1, h2, _⟩
  · exact ⟨Nat.le_refl _, by decide⟩
  · exact ⟨h1, by unfold maxLen at h2; omega⟩

theorem Rows.more {w : World} {B B' : Nat} {A : Option Addr} {ls : List (List UInt8)} (h : Rows w B A ls) (hB : B ≤ B') : Rows w B' A ls := fun h0 => by
  obtain ⟨b, off, e, hlt, hc⟩ := h h0
  refine ⟨b, off, e, by omega, fun i l hi => ?_⟩
  obtain ⟨A', c', h1, h2⟩ := hc i l hi
  exact ⟨A', c', h1, h2.more hB⟩
theorem OwnL.rows_at {w : World} {base c n : Nat} {A : Option Addr} {ls : List (List UInt8)} (h : OwnL w base (.slice A n c) ls) : Rows w w.heap.size A ls := by
  obtain ⟨A', c', e, hr⟩ := h.rows
  injection e with e1 e2 e3
  rw [e1]; exact hr
theorem OwnA.rows_at {w : World} {B base c n : Nat} {A : Option Addr} {ls : List (List UInt8)} (h : OwnA w B base (.slice A n c) ls) (hB : B ≤ w.heap.size) : Rows w w.heap.size A ls := by
  obtain ⟨A', c', e, hr⟩ := h.rows hB
  injection e with e1 e2 e3
  rw [e1]; exact hr
theorem scanN_count : ∀ (k : Nat) (b : List UInt8), (scanN k b).1.length ≤ k
  | 0, _ => Nat.le_refl _
  | k + 1, b => by
    have ih := scanN_count k (b.drop (first b).2.1)
    unfold scanN
    split
    · exact Nat.zero_le _
    · split
      · show (scanN k (b.drop (first b).2.1)).1.length + 1 ≤ k + 1; omega
      · exact Nat.zero_le _

set_option maxHeartbeats 4000000 in
theorem frameReads_law (A : Option Addr) (n cap : Nat) (b : List UInt8) (w : World) (hA : Bytes w w.heap.size A b) (hn : b.length = n) (hcap : n ≤ cap) (hcm : cap ≤ 9223372036854775807) :
    Calls Try.prog 9 #[.slice A n cap] w fun e w' => e = .returned (.bool true) ∧ Below w.heap.size w w' := by
  have Hn := Lib.hid hn
  clear hn
  by_cases h1 : 3000 < n
  · go_enter Try.func9, Try.ntmps9
    go_wp2_with (go_at_call 20; refine (awake04 _).mono ?_; rintro e w1 ⟨rfl, hb1⟩)
    go_ret
    exact ⟨rfl, hb1⟩
  have Hl := Lib.hid (show (scan b).1.length ≤ n by have := scanN_count b.length b; rw [Hn.out] at this; unfold scan; rw [Hn.out]; exact this)
  go_enter Try.func9, Try.ntmps9
  go_wp2_with fail
  refine (awake04 _).mono ?_
  rintro e w1 ⟨rfl, hb1⟩
  go_wp2_with fail
  refine (first_any A n cap b _ ((hA.below hb1).more hb1.size) Hn.out (by omega) hcap hcm).mono ?_
  rintro e w2 ⟨A2, c2, rfl, ho2, _, hb2⟩
  have hc2 := nt hb1 hb2
  go_wp2_with fail
  refine (rfirst_any A n cap 0 b _ w.heap.size hc2.size (hA.below hc2) Hn.out (by omega) hcap hcm (Nat.zero_le _)).mono ?_
  rw [List.drop_zero]
  rintro e w3 ⟨A3, c3, rfl, ho3, hb3⟩
  have hc3 := nt hc2 hb3
  generalize (first b).1 = p at *
  generalize (first b).2.1 = m at *
  generalize (first b).2.2 = er at *
  go_wp2_with fail
  have hb4 := na hc3 (.cells #[.slice A3 p.length c3, .int .i64 m, .int .i64 er] 41)
  refine (scan_any A n cap b _ ((hA.below hb4).more hb4.size) Hn.out (by omega) hcap hcm).mono ?_
  rintro e w5 ⟨v, rfl, hL, hb5⟩
  go_wp2_with fail
  refine (rscan_any A n cap b _ ((hA.below (nt hb4 hb5)).more (nt hb4 hb5).size) Hn.out (by omega) hcap hcm).mono ?_
  rintro e w6 ⟨v', rfl, hR, hb6⟩
  obtain ⟨A5, c5, rfl⟩ := hL.form
  obtain ⟨A6, c6, rfl⟩ := hR.form
  generalize (scan b).1 = L at *
  generalize (scan b).2.1 = M at *
  generalize (scan b).2.2 = f at *
  have hW4 := na (nt hb5 hb6) (.cells #[.slice A6 L.length c6, .int .i64 M, .int .i64 f] 47)
  have hW3 := nt (na (nr w3) _) hW4
  have hW5 := na hb6 (.cells #[.slice A6 L.length c6, .int .i64 M, .int .i64 f] 47)
  have hWw := nt hb4 hW4
  have q0 : (w6.alloc (.cells #[.slice A6 L.length c6, .int .i64 M, .int .i64 f] 47)).cell? ⟨w3.heap.size, 0, none⟩ = some (.slice A3 p.length c3) := (hW4.cell (p := ⟨w3.heap.size, 0, none⟩) (by simp)).trans (cell_of_row _ _ _ _ _ _ (heap_alloc_new w3 _))
  have q1 : (w6.alloc (.cells #[.slice A6 L.length c6, .int .i64 M, .int .i64 f] 47)).cell? ⟨w3.heap.size, 1, none⟩ = some (.int .i64 m) := (hW4.cell (p := ⟨w3.heap.size, 1, none⟩) (by simp)).trans (cell_of_row _ _ _ _ _ _ (heap_alloc_new w3 _))
  have q2 : (w6.alloc (.cells #[.slice A6 L.length c6, .int .i64 M, .int .i64 f] 47)).cell? ⟨w3.heap.size, 2, none⟩ = some (.int .i64 er) := (hW4.cell (p := ⟨w3.heap.size, 2, none⟩) (by simp)).trans (cell_of_row _ _ _ _ _ _ (heap_alloc_new w3 _))
  have k1 := run_str (w6.alloc (.cells #[.slice A6 L.length c6, .int .i64 M, .int .i64 f] 47)) _ A2 p.length c2 p (ho2.new_ (nt hb3 hW3)).bytes.1 rfl
  have k2 := run_str (w6.alloc (.cells #[.slice A6 L.length c6, .int .i64 M, .int .i64 f] 47)) _ A3 p.length c3 p (ho3.below (hW3.mono hc3.size)) rfl
  have s1 := (hL.rows_at.below hW5).more hW5.size
  have s2 := ((hR.rows_at hb6.size).below (na (nr w6) (.cells #[.slice A6 L.length c6, .int .i64 M, .int .i64 f] 47))).more (na (nr w6) (.cells #[.slice A6 L.length c6, .int .i64 M, .int .i64 f] 47)).size
  have hl3 := Hl.out
  go_wp2_with fail
  refine (rsame_any A5 A6 L.length L.length c5 c6 L L _ s1 s2 rfl rfl (by omega) (by omega)).mono ?_
  rintro e w7 ⟨rfl, hb7⟩
  have p1 := (hb7.cell (p := ⟨w6.heap.size, 1, none⟩) (by simp)).trans (cell_of_row _ _ _ _ _ _ (heap_alloc_new w6 _))
  have p2 := (hb7.cell (p := ⟨w6.heap.size, 2, none⟩) (by simp)).trans (cell_of_row _ _ _ _ _ _ (heap_alloc_new w6 _))
  have hd : decide (L = L) = true := by simp
  rw [hd]
  go_wp2
  go_ret
  exact ⟨rfl, nt hWw hb7⟩
end Go.Proofs.Ytlepallialmceaa
