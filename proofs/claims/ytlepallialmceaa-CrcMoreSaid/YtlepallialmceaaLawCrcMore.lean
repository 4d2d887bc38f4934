/- The walk of the check sum's law CrcMore. -/
import Derived.Test.YtlepallialmceaaCrcRef
import Derived.Deep.RegionHeld3
import Derived.RegionTactic
import Derived.ChangeAlike
namespace Go.Proofs.Ytlepallialmceaa
open Go.RowKit

set_option maxHeartbeats 400000 in
theorem crcMore_law (A : Option Addr) (cap : Nat) (l : List UInt8) (A' : Option Addr) (cap' : Nat) (m : List UInt8) (w : World) (hA : Bytes w w.heap.size A l) (hA' : Bytes w w.heap.size A' m) (hl : l.length ≤ 9223372036854775807) (hm : m.length ≤ 9223372036854775807) :
    Calls Try.prog 4 #[.slice A l.length cap, .slice A' m.length cap'] w fun e w' => e = .returned (.bool true) ∧ Below w.heap.size w w' := by
  by_cases h1 : 3000 < l.length
  · go_enter Try.func4, Try.ntmps4
    go_wp2_with fail
    refine (awake03 _).mono ?_
    rintro e w1 ⟨rfl, hb1⟩
    go_wp2_with fail
    go_ret
    exact ⟨rfl, hb1⟩
  by_cases h2 : 3000 < m.length
  · go_enter Try.func4, Try.ntmps4
    go_wp2_with fail
    refine (awake03 _).mono ?_
    rintro e w1 ⟨rfl, hb1⟩
    go_wp2_with fail
    go_ret
    exact ⟨rfl, hb1⟩
  go_enter Try.func4, Try.ntmps4
  go_wp2_with fail
  refine (awake03 _).mono ?_
  rintro e w1 ⟨rfl, hb1⟩
  have hA1 := Lib.hid (hA.below (na hb1 (.cells #[] 5)))
  have hn : ([] : List UInt8).length + l.length ≤ 140737488355328 := by simp; omega
  have hn2 : l.length + m.length ≤ 140737488355328 := by omega
  go_wp2_with (first
    | (at_builtin; refine wpList_append_bytes_form rfl (.tmp 18) (.tmp 19) rfl w1.heap.size (.slice (some ⟨w1.heap.size, 0, none⟩) 0 0) [] rfl (Own.empty _ _ (Nat.le_refl _)) w.heap.size A cap l rfl hA1.out hn (na (nr w1) _).size ?_
       intro A2 c2 w2 hown hg hat; rw [List.nil_append] at hown hat ⊢; clear hA1 hn
       have hb2 : Below w1.heap.size w1 w2 := (na (nr w1) _).grown hg (na (nr w1) _).size (fun q e => by simp [Value.ownBlock] at e; omega)
       have Hat := Lib.hid hat; clear hat; clear hg)
    | (at_builtin; refine wpList_append_bytes_form rfl (.tmp 20) (.tmp 21) rfl w1.heap.size (.slice A2 l.length c2) l rfl hown w.heap.size A' cap' m rfl (hA'.below (hb1.trans (hb2.mono hb1.size))) hn2 hb2.size ?_
       intro A3 c3 w3 hown3 hg3 hat3
       have hb3 : Below w1.heap.size w1 w3 := hb2.grown hg3 hb2.size (fun q e => (World.ownsRow.lt hown q e).1)
       clear hat3 hg3 hown Hat hb2))
  have hb3 := hb1.trans (hb3.mono hb1.size)
  refine (of_any _ _ l _ ((hA.below hb3).more hb3.size) hl).mono ?_
  rintro e w4 ⟨rfl, hb4⟩
  have hown4 := hown3.new_ hb4
  have hb4 := nt hb3 hb4
  clear hb3 hown3
  go_wp2_with fail
  refine (of_any _ _ m _ ((hA'.below hb4).more hb4.size) hm).mono ?_
  rintro e w5 ⟨rfl, hb5⟩
  have hown5 := hown4.new_ hb5
  have hb5 := nt hb4 hb5
  clear hb4 hown4 hb1
  go_wp2_with fail
  have hx1 : Crc.more 0 (nums l) < 4294967296 := Crc.more_lt (by decide) (nums_lt _)
  have hx2 : Crc.more 0 (nums m) < 4294967296 := Crc.more_lt (by decide) (nums_lt _)
  have q1 : Crc.more (Crc.more 0 (nums l)) (nums m) = Crc.more 0 (nums (l ++ m)) := by rw [Crc.more_append, nums_append]
  have q2 : Crc.join (Crc.more 0 (nums l)) (Crc.more 0 (nums m)) m.length = Crc.more 0 (nums (l ++ m)) := by rw [← nums_length m, Crc.join_more, nums_append]
  have c1 := Lib.hid (fun W (h : Below w.heap.size w W) => more_any (Crc.more 0 (nums l)) A' cap' m W hx1 ((hA'.below h).more h.size) hm)
  rw [q1] at c1
  have c2 := Lib.hid (fun W (h : Own W w1.heap.size (.slice A3 (l ++ m).length c3) (l ++ m)) => of_n A3 (l.length + m.length) c3 (l ++ m) W h.bytes.1 (by simp) (by omega))
  have c3' : Hid (∀ W (_ : Below w.heap.size w W), Calls Try.prog 18 #[.int .u32 (Crc.more 0 (nums l)), .int .u32 (Crc.more 0 (nums m)), .int .i64 m.length] W fun e w' => e = .returned (.int .u32 (Crc.more 0 (nums (l ++ m)))) ∧ Below W.heap.size W w') := by
    intro W h
    by_cases h0 : m = []
    · subst h0
      have hj := join_none (Crc.more 0 (nums l)) (Crc.more 0 (nums [])) 0 W (by decide)
      rw [List.append_nil]
      exact hj.mono fun e w' ⟨h1, h2⟩ => ⟨h1, h2 ▸ nr _⟩
    · rw [← q2]
      exact join_any _ _ _ W hx1 hx2 (List.length_pos_iff.2 h0) (by omega)
  have hcur := nd hb5
  have hown : Own w5.drew w1.heap.size (.slice A3 (l ++ m).length c3) (l ++ m) := hown5
  have Hn2 := Lib.hid hn2
  clear q1 q2 hb5 hown5 hn2
  generalize Crc.more 0 (nums (l ++ m)) = S at *
  generalize Crc.more 0 (nums l) = S1 at *
  generalize Crc.more 0 (nums m) = S2 at *
  have Sk : ∀ W, Below w.heap.size w W → Own W w1.heap.size (.slice A3 (l ++ m).length c3) (l ++ m) → (convert 22 9 (.slice A l.length cap)).run Try.prog W = .ok (S8 l) W ∧ (convert 22 9 (.slice A3 l.length c3)).run Try.prog W = .ok (S8 l) W := by
    intro W hcur hown
    have hs2 := run_str W _ A3 l.length c3 ((l ++ m).take l.length) (hown.bytes.1.take _) (by simp)
    rw [List.take_left] at hs2
    exact ⟨run_str W _ A l.length cap l (hA.below hcur) rfl, hs2⟩
  have Sk := Lib.hid Sk
  have hc3 : (l.length : Int) ≤ (c3 : Int) := by have := hown.cap; rw [List.length_append] at this; omega
  go_region_held3 (fun w' => (convert 22 9 (.slice A l.length cap)).run Try.prog w' = .ok (S8 l) w' ∧ (convert 22 9 (.slice A3 l.length c3)).run Try.prog w' = .ok (S8 l) w')
    (exact Sk.out _ hcur hown)
    (first
      | (go_at_call 16; refine (c1.out _ hcur).mono ?_; rintro e W' ⟨rfl, hb'⟩; have hown := hown.new_ hb'; have hcur := nt hcur hb'; clear hb')
      | (go_at_call 14; refine (c2.out _ hown).mono ?_; rintro e W' ⟨rfl, hb'⟩; have hown := hown.new_ hb'; have hcur := nt hcur hb'; clear hb')
      | (go_at_call 18; refine (c3'.out _ hcur).mono ?_; rintro e W' ⟨rfl, hb'⟩; have hown := hown.new_ hb'; have hcur := nt hcur hb'; clear hb'))
  go_wp2
  go_ret
  exact ⟨rfl, hcur⟩
end Go.Proofs.Ytlepallialmceaa
