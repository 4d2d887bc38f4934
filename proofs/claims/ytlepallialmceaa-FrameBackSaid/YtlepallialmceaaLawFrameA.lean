/- The walk of the frame laws' 'awake'; FrameWraps, FrameMost, FrameTells. -/
import Derived.Test.YtlepallialmceaaPlainFrame
import Derived.Test.YtlepallialmceaaCrcRef
namespace Go.Proofs.Ytlepallialmceaa
open Go.RowKit

theorem scan_awake : scan (wrap [] ++ [165]) = ([[]], 9, 2) := by decide +kernel
theorem wrap_awake : (wrap [])[0]? = some 165 := by decide +kernel

set_option maxHeartbeats 1000000 in
theorem awake04 (w : World) : Calls Try.prog 20 #[] w fun e w' => e = .returned (.bool true) ∧ Below w.heap.size w w' := by
  go_enter Try.func20, Try.ntmps20
  go_wp2_with fail
  refine (wrap_any none 0 0 [] _ (Bytes.nil_ _) rfl (by decide)).mono ?_
  rintro e w1 ⟨A1, c1, rfl, ho1, hb1⟩
  have hl9 : (wrap []).length = 9 := by decide +kernel
  have hn1 : ([] : List UInt8).length + (wrap []).length ≤ 140737488355328 := by rw [hl9]; decide
  have hn2 : (wrap []).length + ([165] : List UInt8).length ≤ 140737488355328 := by rw [hl9]; decide
  have HL := Lib.hid hl9
  clear hl9
  go_wp2_with (first
    | (at_builtin; refine wpList_append_bytes_form rfl (.tmp 11) (.tmp 12) rfl w1.heap.size (.slice (some ⟨w1.heap.size, 0, none⟩) 0 0) [] rfl (Own.empty _ _ (Nat.le_refl _)) w1.heap.size A1 c1 (wrap []) (congrArg (fun k => Value.slice A1 k c1) HL.out.symm) (ho1.bytes.1.below (na (nr w1) _)) hn1 (na (nr w1) _).size ?_
       intro A2 c2 w2 hown hg hat; rw [List.nil_append] at hown hat ⊢
       have hb2 : Below w1.heap.size w1 w2 := (na (nr w1) _).grown hg (na (nr w1) _).size (fun q e => by simp [Value.ownBlock] at e; omega)
       clear hn1 hat hg)
    | (at_builtin; refine wpList_append_bytes_form rfl (.tmp 13) (.tmp 14) rfl w1.heap.size (.slice A2 (wrap []).length c2) (wrap []) rfl (hown.alloc _) (w2.heap.size + 1) (some ⟨w2.heap.size, 0, none⟩) 1 [165] rfl (by have := Bytes.new w2 #[.int .u8 165] 5 (0, 0) [165] rfl; rwa [World.size_alloc] at this) hn2 (na hb2 _).size ?_
       intro A3 c3 w3 hown3 hg3 hat3
       have hb3 : Below w1.heap.size w1 w3 := (na hb2 _).grown hg3 (na hb2 _).size (fun q e => (World.ownsRow.lt hown q e).1)
       clear hat3 hg3 hown hn2 hb2))
  rw [HL.out]
  refine (scan_any A3 10 c3 (wrap [] ++ [165]) w3 hown3.bytes.1 (by rw [List.length_append, HL.out]; rfl) (by decide) (by have := hown3.cap; rw [List.length_append, HL.out] at this; exact this) hown3.capm).mono ?_
  rintro e w4 ⟨v, rfl, ho4, hb4⟩
  rw [scan_awake] at ho4 ⊢
  obtain ⟨A4, c4, rfl⟩ := ho4.form
  have hb5 : Below w.heap.size w w4 := hb1.trans ((hb3.trans (hb4.mono hb3.size)).mono hb1.size)
  have hb14 : Below w1.heap.size w1 w4 := hb3.trans (hb4.mono hb3.size)
  obtain ⟨g1, rfl, hg1, hg2⟩ := ho1.some_ (by rw [HL.out]; decide)
  have hc0 : w4.cell? ⟨g1, 0, none⟩ = some (.int .u8 165) := ((ho1.new_ hb14).cell wrap_awake)
  clear hown3 hb3 hb4 ho4 ho1 hb14
  go_wp2_with fail
  go_ret
  exact ⟨rfl, hb5⟩

/-! ### FrameMost -/
set_option maxHeartbeats 2000000 in
theorem frameMost_law (m : Int) (w : World) :
    Calls Try.prog 8 #[.int .i64 m] w fun e w' => e = .returned (.bool true) ∧ Below w.heap.size w w' := by
  by_cases h1 : m < -3
  · go_enter Try.func8, Try.ntmps8
    go_wp2_with (go_at_call 20; refine (awake04 _).mono ?_; rintro e w1 ⟨rfl, hb1⟩)
    go_ret
    exact ⟨rfl, hb1⟩
  by_cases h2 : 3 < m
  · go_enter Try.func8, Try.ntmps8
    go_wp2_with (go_at_call 20; refine (awake04 _).mono ?_; rintro e w1 ⟨rfl, hb1⟩)
    go_ret
    exact ⟨rfl, hb1⟩
  obtain ⟨n, hn⟩ : ∃ n : Nat, (65536 : Int) + m = n := ⟨(65536 + m).toNat, by omega⟩
  obtain rfl : m = (n : Int) - 65536 := by omega
  have hmk := fun W => run_make_bytes n (by omega) W
  have e0 : (65536 : Int) + ((n : Int) - 65536) = n := by omega
  by_cases h3 : 65536 < n
  · have h3' : (0 : Int) < (n : Int) - 65536 := by omega
    go_enter Try.func8, Try.ntmps8
    go_wp2_with fail
    refine (awake04 _).mono ?_
    rintro e w1 ⟨rfl, hb1⟩
    go_wp2_with fail
    refine (wrap_large _ _ _ _ h3).mono ?_
    rintro e w2 ⟨rfl, rfl⟩
    go_wp2_with fail
    go_ret
    exact ⟨rfl, na hb1 _⟩
  · have h3' : ¬ (0 : Int) < (n : Int) - 65536 := by omega
    have HF := Lib.hid (first_wrap (List.replicate n 0) [] (by simp; omega))
    have HL := Lib.hid (List.length_replicate (n := n) (a := (0 : UInt8)))
    have HW := Lib.hid (wrap_length (List.replicate n 0))
    go_enter Try.func8, Try.ntmps8
    go_wp2_with fail
    refine (awake04 _).mono ?_
    rintro e w1 ⟨rfl, hb1⟩
    go_wp2_with fail
    refine (wrap_any _ _ _ (List.replicate n 0) _ (Bytes.new w1 (Array.replicate n (B8 0)) 5 (0, 0) _ (by simp)) HL.out (by omega)).mono ?_
    rintro e w2 ⟨A2, c2, rfl, ho2, hb2⟩
    have hb2 := nt (na hb1 _) hb2
    clear hb1
    generalize List.replicate n (0 : UInt8) = p at *
    rw [HL.out] at HW ⊢
    go_wp2_with fail
    refine (first_any A2 (9 + n) c2 (wrap p) _ ho2.bytes.1 HW.out (by omega) (by have := ho2.cap; rw [HW.out] at this; exact this) ho2.capm).mono ?_
    rintro e w3 ⟨A3, c3, rfl, ho3, _, hb3⟩
    have hf := HF.out
    rw [List.append_nil] at hf
    rw [hf] at ho3 ⊢
    simp only [HL.out]
    go_wp2_with fail
    go_ret
    exact ⟨rfl, nt hb2 hb3⟩
end Go.Proofs.Ytlepallialmceaa
