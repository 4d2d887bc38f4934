/- The walk of net.Count. -/
import Derived.Test.YtegpoghgddjmaaaNetTake2
namespace Go.Proofs.Ytegpoghgddjmaaa
open Go.RowKit
set_option maxRecDepth 100000

/-- How many messages go one way. -/
def countM (b : Bool) (M : List Ms) : Nat := M.countP (fun m => m.a == b)
set_option maxHeartbeats 4000000 in
theorem ncount_any (g : Nat) (v : Value) (M : List Ms) (b : Bool) (w : World) (hN : OwnN w g v M) :
    Calls Try.prog 50 #[.pointer (some ⟨g, 0, none⟩), .bool b] w fun e w' => e = .returned (.int .i64 (countM b M : Nat)) ∧ Below w.heap.size w w' := by
  obtain ⟨A0, c0, rfl⟩ := hN.form
  have c1 := hN.c
  go_enter Try.func50, Try.ntmps50
  go_wp2_with fail
  have HN := Lib.hid hN
  have hn63 : M.length ≤ 9223372036854775807 := by
    rcases Nat.eq_zero_or_pos M.length with h | h
    · omega
    · obtain ⟨q, c, e, _⟩ := World.ownsRow.form hN.row h
      injection e with e1 _ e3
      subst e1 e3
      have := row_cap hN.row
      omega
  clear c1
  go_loopw [5, 13] (fun cnt ix wr => ∃ k : Nat, k ≤ M.length ∧ ix = .int .i64 k ∧ cnt = .int .i64 (countM b (M.take k) : Nat) ∧ Hid (Below w.heap.size w wr)) (fun _ ix _ => M.length - (intOf ix).toNat)
  case atStart => exact ⟨0, Nat.zero_le _, rfl, rfl, nr w⟩
  case round =>
    obtain ⟨k, hk, rfl, rfl, hb⟩ := hrel
    by_cases hend : k = M.length
    · have hz := Lib.hid (show countM b (M.take k) = countM b M by rw [hend, List.take_length])
      rw [hz.out]
      have hki : ¬ (k : Int) < (M.length : Int) := by omega
      clear hend
      go_wp2_with fail
      go_ret
      exact ⟨rfl, hb.out⟩
    · have hlt : k < M.length := by omega
      have hki : (k : Int) < (M.length : Int) := by omega
      obtain ⟨m, hm⟩ : ∃ m, M[k]? = some m := ⟨_, List.getElem?_eq_getElem hlt⟩
      obtain ⟨q, c, e, _, _, k0, k1, k2⟩ := (HN.out.new_ hb.out).cells hm
      injection e with e1 _ e3
      subst e1
      subst e3
      have hcn : Hid (countM b (M.take (k + 1)) = countM b (M.take k) + (if m.a == b then 1 else 0)) := show _ = _ by
        unfold countM
        rw [List.take_add_one, hm, List.countP_append]
        show _ + List.countP _ [m] = _
        rw [List.countP_singleton]
      have hcl : countM b (M.take k) ≤ k := by
        unfold countM
        exact Nat.le_trans (List.countP_le_length ..) (by rw [List.length_take]; omega)
      obtain ⟨C, hC⟩ : ∃ C, countM b (M.take k) = C := ⟨_, rfl⟩
      rw [hC] at hcn hcl ⊢
      clear hC hm
      cases hab : m.a == b with
      | true =>
        rw [hab, if_pos rfl] at hcn
        go_wp2_with fail
        exact ⟨⟨k + 1, by omega, by go_num, by rw [hcn.out]; go_num, na hb.out _⟩, by simp [intOf]; omega⟩
      | false =>
        rw [hab, if_neg (by decide)] at hcn
        go_wp2_with fail
        exact ⟨⟨k + 1, by omega, by go_num, by rw [hcn.out]; rfl, na hb.out _⟩, by simp [intOf]; omega⟩
end Go.Proofs.Ytegpoghgddjmaaa
