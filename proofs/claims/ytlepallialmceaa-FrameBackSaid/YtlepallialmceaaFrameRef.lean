/- The walks of the document's answer for frames: four bytes, Wrap, First. -/
import Derived.Test.YtlepallialmceaaPlainFrame
import Derived.Test.YtlepallialmceaaCrcRef
namespace Go.Proofs.Ytlepallialmceaa
open Go.RowKit

theorem rfour_any (n : Nat) (w : World) (hn : n < 4294967296) :
    Calls Try.prog 38 #[.int .i64 n] w fun e w' => e = .returned (S8 (four n)) ∧ Below w.heap.size w w' := by
  have e : ∀ k : Nat, ((UInt8.ofNat k).toNat : Int) = (k : Int) % 256 := fun k => by rw [UInt8.toNat_ofNat']; omega
  have hc := fun (W : World) (C : Array Value) (hC : C = ((four n).map B8).toArray) => run_str (W.alloc (.cells C 5)) _ (some ⟨W.heap.size, 0, none⟩) 4 4 (four n) (Bytes.new W C 5 (0, 0) (four n) hC) rfl
  have hc2 := hc w #[.int .u8 ((n : Int) % 256), .int .u8 ((n : Int) / 256 % 256), .int .u8 ((n : Int) / 65536 % 256), .int .u8 ((n : Int) / 16777216)] (by
    show _ = #[B8 (UInt8.ofNat n), B8 (UInt8.ofNat (n / 256)), B8 (UInt8.ofNat (n / 65536)), B8 (UInt8.ofNat (n / 16777216))]
    unfold B8
    rw [e, e, e, e]
    congr 6 <;> omega)
  clear hc e
  go_enter Try.func38, Try.ntmps38
  go_wp2
  go_ret
  exact ⟨rfl, na (nr w) _⟩

set_option maxHeartbeats 4000000 in
theorem rwrap_any (A : Option Addr) (n cap : Nat) (p : List UInt8) (w : World) (hA : Bytes w w.heap.size A p) (hn : p.length = n) (hp : n ≤ 65536) :
    Calls Try.prog 29 #[.slice A n cap] w fun e w' => ∃ A' c, e = .returned (.tuple #[.slice A' (9 + p.length) c, .int .i64 0]) ∧ Bytes w' w'.heap.size A' (wrap p) ∧ Below w.heap.size w w' := by
  go_enter Try.func29, Try.ntmps29
  go_wp2_with fail
  refine (rfour_any n _ (by omega)).mono ?_
  rintro e w1 ⟨rfl, hb1⟩
  go_wp2_with fail
  rw [ByteArray.mk_append_mk]
  have hS := fsum_lt p
  have hx1 : (([165] : List UInt8) ++ four n).length = 5 := rfl
  have hxe := Lib.hid (show ([165] : List UInt8) ++ four n = (165 : UInt8) :: four p.length by rw [hn]; rfl)
  have Hn := Lib.hid hn
  clear hn
  generalize ([165] : List UInt8) ++ four n = x1 at *
  have Hwrap := Lib.hid (show wrap p = x1 ++ (four (fsum p) ++ p) by rw [hxe.out, wrap_eq]; rfl)
  have Hsum : Hid (Crc.more 0 (nums (x1 ++ p)) = fsum p) := by unfold Hid fsum; rw [hxe.out]
  have h4 := four_length (fsum p)
  have hpl : p.length ≤ 65536 := by have := Hn.out; omega
  have k1 := ByteArray.mk_append_mk x1 p
  have k2 := ByteArray.mk_append_mk x1 (four (fsum p))
  have k3 := ByteArray.mk_append_mk (x1 ++ four (fsum p)) p
  rw [List.append_assoc] at k3
  generalize hSS : fsum p = S at *
  clear hSS
  have hcur := nd hb1
  have kv1 := fun W => run_bytes W (x1 ++ p)
  have kv2 := fun W => run_bytes W (x1 ++ (four S ++ p))
  have hln : (x1 ++ p).length = 5 + p.length := by rw [List.length_append, hx1]
  have hwS : IntKind.i64.wrap (S : Int) = (S : Int) := by rw [IntKind.wrap_i64]; omega
  have hsz1 : ¬ 9223372036854775807 < 5 + p.length := by omega
  have hsz2 : ¬ 9223372036854775807 < 5 + 4 := by omega
  have hsz3 : ¬ 9223372036854775807 < 5 + 4 + p.length := by omega
  have hcv := fun W (h : Below w.heap.size w W) => run_str W _ A n cap p (hA.below h) Hn.out
  have Hcv := Lib.hid hcv
  clear hcv
  have c0 := Hcv.out _ hcur
  have c1 := Hcv.out _ (nd (nd (na hb1 (rowS (x1 ++ p) (capS w1.drew (x1 ++ p))))))
  go_region_with (first
      | (go_at_call 15; refine (rof_n _ (5 + p.length) _ (x1 ++ p) _ (by exact Bytes.newS w1 (x1 ++ p) (capS w1.drew (x1 ++ p))) hln (by omega)).mono ?_; rintro e w' ⟨rfl, rfl⟩; rw [Hsum.out])
      | (go_at_call 38; refine (rfour_any S _ hS).mono ?_; rintro e W' ⟨rfl, hb'⟩; have hcur := nt (nd (nd (na hb1 _))) hb'; have c0 := Hcv.out _ hcur; clear hb'))
  all_goals
    go_wp2
    go_ret2
    refine ⟨some ⟨W'.heap.size, 0, none⟩, capS W' (x1 ++ (four S ++ p)), ?_, ?_, ?_⟩
    · exact congrArg (fun k => Ending.returned (.tuple #[.slice (some ⟨W'.heap.size, 0, none⟩) k (capS W' (x1 ++ (four S ++ p))), .int .i64 0])) (show 5 + (4 + p.length) = 9 + p.length by omega)
    · rw [Hwrap.out]
      exact Bytes.newS W' (x1 ++ (four S ++ p)) (capS W' (x1 ++ (four S ++ p)))
    · exact nd (na hcur (rowS (x1 ++ (four S ++ p)) (capS W' (x1 ++ (four S ++ p)))))
end Go.Proofs.Ytlepallialmceaa
