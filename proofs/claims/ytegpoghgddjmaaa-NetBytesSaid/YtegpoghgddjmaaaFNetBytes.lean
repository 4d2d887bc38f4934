/- The law NetBytes: every input: true. The walk of the law and of all that it calls is joined to the statement. No conditions. -/
import Derived.Test.YtegpoghgddjmaaaLawNetBytes
import Derived.Test.YtegpoghgddjmaaaMsg
import Derived.Test.YtegpoghgddjmaaaCaps
import Derived.WalkKit
import Derived.ProofKit
import Derived.OpenShut
import Derived.ShutString
import Derived.ChangeOld
import Derived.Below
namespace Go.Proofs.Ytegpoghgddjmaaa.netBytes
open Go.ChangeShapes Go.WideShapes Go.ChangeAt Go.RowKit
open Go.ChangeMaps (open_string shut_string)
set_option linter.unusedVariables false

theorem own : ownKnob Try.prog.godebug = none := by kernel_rfl
theorem laidOut : laidOutB Try.prog = true := by kernel_rfl

theorem walk (b0 : Bool) (h0 : Int) (a0 : Option Addr) (len0 cap0 : Nat) (l0 : List UInt8) (a1 : Option Addr) (len1 cap1 : Nat) (l1 : List UInt8) (w : World) (w0 : Bytes w w.heap.size a0 l0) (hn0 : l0.length = len0) (hc0 : len0 ≤ 9223372036854775807) (w1 : Bytes w w.heap.size a1 l1) (hn1 : l1.length = len1) (hc1 : (a1 = none → cap1 = 0) ∧ len1 ≤ cap1 ∧ cap1 ≤ 9223372036854775807) :
    Calls Try.prog 10 #[MV b0 h0 a0 len0 cap0, .slice a1 len1 cap1] w fun e w' => e = .returned (.bool true) ∧ Below w.heap.size w w' := by
  exact netBytes_law b0 h0 a0 len0 cap0 l0 a1 len1 cap1 l1 w w0 hn0 hc0 w1 hn1 hc1

set_option maxRecDepth 100000 in
theorem lifted (os : Os) (started : os.Started) (H : Type) (enc : TypeId × Value → H) :
    ReturnsInHanded {} Try.checked os 10 .any (Rows.netBytesSpec.pre6 enc Try.prog Try.f10 Rows.netBytesRow.domain false) (Rows.netBytesSpec.post enc Try.prog Try.f10 false true false false) := by
  refine returnsInHanded_of_change (C := Try.checked) own started (by kernel_rfl) Try.func10
    (ChangeSpec.witness6 (enc := enc) (C := Try.checked) false ⟨#[], #[MV false 0 none 0 0, .slice none 0 0], []⟩ 8 (by kernel_rfl) (by kernel_rfl) (by kernel_rfl) (by kernel_rfl)) ?_
  intro W base args ds gs before hval0 hW hcnd _
  have hval : ∀ (j : Nat) t v, Try.f10.params[j]? = some t → args[j]? = some v → Value.okWide Try.prog W .any base t v := hval0
  have hW' := hW
  obtain ⟨p, q, hA0, hV, rfl, hfz, hnd⟩ := hW
  have hA : DataW.TrodAll enc Try.prog W 0 (fun _ => true) true Try.f10.params.toList args.toList ds p := hA0
  rw [Try.params10] at hA hval
  obtain ⟨v0, vs0, d0, ds0, p0, q0, hargs, rfl, rfl, h0, r0⟩ := trodAll_cons hA
  obtain ⟨v1, vs1, d1, ds1, p1, q1, rfl, rfl, rfl, h1, r1⟩ := trodAll_cons r0
  obtain ⟨rfl, rfl, rfl⟩ := trodAll_nil r1
  obtain rfl : args = #[v0, v1] := by cases args; simp_all
  obtain ⟨rfl, rfl⟩ := trodVars_none hV
  obtain ⟨c0, rfl, hs0⟩ := okWide_struct Try.underlying54 (hval 0 54 v0 rfl rfl)
  have k0 := h0
  have lt0 : ∀ x ∈ p0, x.block < W.heap.size := by obtain ⟨m, hm⟩ := k0; exact DataW.trod_lt m _ _ _ hm
  obtain ⟨b0, hh0, a0, len0, cap0, l0, ec0, _, hn0, w0, _, hlc0, hcm0⟩ : ∃ a hh A n c l, c0.toList = [.bool a, .int .i64 hh, .slice A n c] ∧ (-9223372036854775808 ≤ hh ∧ hh ≤ 9223372036854775807) ∧ l.length = n ∧ Bytes W W.heap.size A l ∧ (A = none → c = 0) ∧ n ≤ c ∧ c ≤ 9223372036854775807 := by
    obtain ⟨fuel, hf⟩ := h0
    exact open_msg hf (by rw [cellsMsg] at hs0; simpa using hs0)
  have hc0 := Nat.le_trans hlc0 hcm0
  obtain rfl : c0 = #[.bool b0, .int .i64 hh0, .slice a0 len0 cap0] := by rw [← Array.toList_inj, ec0]
  obtain ⟨a1, len1, cap1, rfl⟩ := okWide_slice Try.underlying31 (hval 1 31 v1 rfl rfl)
  have k1 := h1
  have lt1 : ∀ x ∈ p1, x.block < W.heap.size := by obtain ⟨m, hm⟩ := k1; exact DataW.trod_lt m _ _ _ hm
  obtain ⟨z1, x1⟩ : ∃ zs, IsRow .u8 W a1 len1 cap1 zs := by
    obtain ⟨fuel, hf⟩ := h1
    rcases open_ints Try.underlying31 Try.underlying5 (by kernel_rfl) hf with ⟨hcs, _⟩ | ⟨x, l, c, zs, hcs, _, hl, hm, hz, _, hcell, hwz⟩
    · simp [Value.cells] at hcs
      obtain ⟨rfl, rfl, rfl⟩ := hcs
      exact ⟨[], .inl ⟨rfl, rfl, rfl, rfl⟩⟩
    · simp [Value.cells] at hcs
      obtain ⟨rfl, rfl, rfl⟩ := hcs
      exact ⟨zs, .inr ⟨_, rfl, hl, hm, by simpa using hz, hcell, hwz⟩⟩
  have hc1 := IsRow.caps3 x1
  obtain ⟨l1, hn1, w1, _⟩ := IsRow.bytes x1
  clear hA0 hval0
  refine (walk b0 hh0 a0 len0 cap0 l0 a1 len1 cap1 l1 W w0 hn0 hc0 w1 hn1 hc1).mono fun e W' ⟨he, bel⟩ => ?_
  subst he
  exact ⟨_, rfl, _, _, _, [], _, [], hW', trodAll_mk1 (shut_bool Try.underlying4 _), (trodAll_cons_mk (Below.trod laidOut (by kernel_rfl) (of_decide_eq_true (by kernel_rfl)) k0 bel lt0) (trodAll_cons_mk (Below.trod laidOut (by kernel_rfl) (of_decide_eq_true (by kernel_rfl)) k1 bel lt1) trodAll_mk0)), rfl, bel.frame _, fun h => by cases h⟩

theorem over : Rows.netBytesRow.holds Try.pinned (OpenSpec.ofChange Rows.netBytesSpec) :=
  OpenClaim.holds_of_wide 10 Try.f10 rfl rfl rfl rfl rfl rfl rfl ⟨rfl, rfl, rfl, rfl, rfl⟩ rfl rfl rfl rfl rfl (by kernel_rfl) Try.func10 (by kernel_rfl)
    (of_decide_eq_true (by kernel_rfl)) (by unfold Func.isWrapper; first | (rw [if_pos (by decide +kernel)]; kernel_rfl) | (rw [if_neg (by decide +kernel)]; exact ⟨rfl, rfl⟩))
    (fun os started H enc _ => lifted os started H enc)

/-- The statement. -/
theorem proved : Rows.NetBytesSaid := over
#print axioms proved
end Go.Proofs.Ytegpoghgddjmaaa.netBytes
