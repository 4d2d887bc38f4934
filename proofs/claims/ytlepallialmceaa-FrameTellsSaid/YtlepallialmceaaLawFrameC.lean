/- The walk of the frame law FrameTells. -/
import Derived.Test.YtlepallialmceaaPlainTells
import Derived.Test.YtlepallialmceaaLawFrameA
namespace Go.Proofs.Ytlepallialmceaa
open Go.RowKit

set_option maxHeartbeats 4000000 in
theorem frameTells_law (A : Option Addr) (n cap : Nat) (p : List UInt8) (at_ : Int) (bt : Nat) (A' : Option Addr) (n' cap' : Nat) (r : List UInt8) (w : World) (hA : Bytes w w.heap.size A p) (hn : p.length = n) (hb : bt < 256) (hA' : Bytes w w.heap.size A' r) (hn' : r.length = n') :
    Calls Try.prog 11 #[.slice A n cap, .int .i64 at_, .int .u8 bt, .slice A' n' cap'] w fun e w' => e = .returned (.bool true) ∧ Below w.heap.size w w' := by
  have Hn := Lib.hid hn
  have Hn' := Lib.hid hn'
  clear hn hn'
  by_cases h1 : 3000 < n
  · go_enter Try.func11, Try.ntmps11
    go_wp2_with (go_at_call 20; refine (awake04 _).mono ?_; rintro e w1 ⟨rfl, hb1⟩)
    go_ret
    exact ⟨rfl, hb1⟩
  by_cases h2 : 3000 < n'
  · go_enter Try.func11, Try.ntmps11
    go_wp2_with (go_at_call 20; refine (awake04 _).mono ?_; rintro e w1 ⟨rfl, hb1⟩)
    go_ret
    exact ⟨rfl, hb1⟩
  have Hwl := Lib.hid (show (wrap p).length = 9 + n by rw [wrap_length, Hn.out])
  by_cases h3 : at_ < 5
  · go_enter Try.func11, Try.ntmps11
    go_wp2_with fail
    refine (awake04 _).mono ?_
    rintro e w1 ⟨rfl, hb1⟩
    go_wp2_with fail
    refine (wrap_any A cap n p _ ((hA.below hb1).more hb1.size) Hn.out (by omega)).mono ?_
    rintro e w2 ⟨A2, c2, rfl, ho2, hb2⟩
    go_wp2_with fail
    go_ret
    exact ⟨rfl, nt hb1 hb2⟩
  obtain ⟨k, rfl⟩ := Int.eq_ofNat_of_zero_le (show 0 ≤ at_ by omega)
  by_cases h4 : 9 + n ≤ k
  · go_enter Try.func11, Try.ntmps11
    go_wp2_with fail
    refine (awake04 _).mono ?_
    rintro e w1 ⟨rfl, hb1⟩
    go_wp2_with fail
    refine (wrap_any A cap n p _ ((hA.below hb1).more hb1.size) Hn.out (by omega)).mono ?_
    rintro e w2 ⟨A2, c2, rfl, ho2, hb2⟩
    rw [Hn.out]
    go_wp2_with fail
    go_ret
    exact ⟨rfl, nt hb1 hb2⟩
  by_cases h5 : bt = 0
  · subst h5
    go_enter Try.func11, Try.ntmps11
    go_wp2_with fail
    refine (awake04 _).mono ?_
    rintro e w1 ⟨rfl, hb1⟩
    go_wp2_with fail
    refine (wrap_any A cap n p _ ((hA.below hb1).more hb1.size) Hn.out (by omega)).mono ?_
    rintro e w2 ⟨A2, c2, rfl, ho2, hb2⟩
    rw [Hn.out]
    go_wp2_with fail
    go_ret
    exact ⟨rfl, nt hb1 hb2⟩
  have h5' : ((bt : Int) == 0) = false := by rw [beq_eq_false_iff_ne]; omega
  obtain ⟨x, hx⟩ : ∃ x, (wrap p)[k]? = some x := ⟨(wrap p)[k]'(by rw [Hwl.out]; omega), List.getElem?_eq_getElem _⟩
  have Hx := Lib.hid hx
  clear hx
  have hxl := x.toNat_lt
  have ex := u8_xor_nat x.toNat bt (by omega) hb
  have hyl : x.toNat ^^^ bt < 256 := Nat.xor_lt_two_pow (n := 8) (by omega) (by omega)
  obtain ⟨y, hy⟩ : ∃ y : UInt8, y.toNat = x.toNat ^^^ bt := ⟨UInt8.ofNat (x.toNat ^^^ bt), by rw [UInt8.toNat_ofNat']; omega⟩
  have hne : x ≠ y := fun e => h5 (by
    have e2 : x.toNat = x.toNat ^^^ bt := by rw [← hy, ← e]
    have : x.toNat ^^^ (x.toNat ^^^ bt) = x.toNat ^^^ x.toNat := by rw [← e2]
    rwa [← Nat.xor_assoc, Nat.xor_self, Nat.zero_xor] at this)
  have Hf := Lib.hid (first_turned p r k x y (by have := Hn.out; omega) (by omega) Hx.out hne)
  have Hy := Lib.hid hy
  clear hy hne
  go_enter Try.func11, Try.ntmps11
  go_wp2_with fail
  refine (awake04 _).mono ?_
  rintro e w1 ⟨rfl, hb1⟩
  go_wp2_with fail
  refine (wrap_any A cap n p _ ((hA.below hb1).more hb1.size) Hn.out (by omega)).mono ?_
  rintro e w2 ⟨A2, c2, rfl, ho2, hb2⟩
  rw [Hn.out]
  obtain ⟨g, rfl, hg1, hg2⟩ := ho2.some_ (by rw [Hwl.out]; omega)
  have hcl := ho2.cell Hx.out
  have hfr := ho2.free k
  have hb3 : Below w.heap.size w (w2.setCell ⟨g, k, none⟩ (.int .u8 ((x.toNat ^^^ bt : Nat) : Int))) := (nt hb1 hb2).setCell (Nat.le_trans hb1.size hg1) _
  have hown3 := ho2.set_ k y
  rw [show B8 y = .int .u8 ((x.toNat ^^^ bt : Nat) : Int) from congrArg (fun n : Nat => Value.int .u8 (n : Int)) Hy.out, List.length_set, Hwl.out] at hown3
  have hA3 := Lib.hid (hA'.below hb3)
  have hn3 : ((wrap p).set k y).length + r.length ≤ 140737488355328 := by rw [List.length_set, Hwl.out, Hn'.out]; omega
  have Hn3 := Lib.hid hn3
  have Hown3 := Lib.hid hown3
  have Hb3 := Lib.hid hb3
  clear hn3 hown3 hb3
  have hLs : ((wrap p).set k y).length = 9 + n := by rw [List.length_set, Hwl.out]
  have HLs := Lib.hid hLs
  clear hLs
  go_wp2_with (at_builtin; refine wpList_append_bytes_form rfl (.tmp 57) (.tmp 58) rfl w1.heap.size (.slice (some ⟨g, 0, none⟩) (9 + n) c2) ((wrap p).set k y) rfl Hown3.out w.heap.size A' cap' r (congrArg (fun k => Value.slice A' k cap') Hn'.out.symm) hA3.out Hn3.out (by simp only [World.setCell, Array.size_modify]; exact hb2.size) ?_
               intro A5 c5 w5 hown5 hg5 hat5
               have hb5 : Below w.heap.size w w5 := Hb3.out.grown hg5 Hb3.out.size (fun q e => by simp [Value.ownBlock] at e; have := hb1.size; omega)
               clear hat5 hg5)
  have hl5 : ((wrap p).set k y ++ r).length = (wrap p).length + r.length := by rw [List.length_append, List.length_set]
  refine (first_any A5 ((wrap p).length + r.length) c5 ((wrap p).set k y ++ r) w5 hown5.bytes.1 hl5 (by have := Hwl.out; have := Hn'.out; omega) (by have := hown5.cap; rw [hl5] at this; exact this) hown5.capm).mono ?_
  rintro e w6 ⟨A6, c6, rfl, ho6, _, hb6⟩
  rw [Hf.out]
  go_wp2_with fail
  go_ret
  exact ⟨rfl, nt hb5 hb6⟩
end Go.Proofs.Ytlepallialmceaa
