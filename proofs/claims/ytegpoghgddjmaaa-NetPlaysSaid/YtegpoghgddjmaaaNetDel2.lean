/- The walk of slices.Delete at messages: any one. -/
import Derived.Test.YtegpoghgddjmaaaNetTake
import Derived.Deep.RegionLaw
import Derived.Lib.SliceRun
namespace Go.Proofs.Ytegpoghgddjmaaa
open Go.RowKit
set_option maxRecDepth 100000

theorem row_put {w : World} {base e size q n cap k : Nat} {xs : List Value} (h : w.ownsRow base e size (.slice (some ⟨q, 0, none⟩) n cap) n xs) (v : Value) : (w.setCell ⟨q, k, none⟩ v).ownsRow base e size (.slice (some ⟨q, 0, none⟩) n cap) n (xs.set k v) := by
  rcases h.2 with ⟨h0, _⟩ | ⟨g', cap', cur, hv, hb, hg, hnc, hcm, hcs, ht⟩
  · cases h0
  · injection hv with h1 h2 h3
    injection h1 with h1
    injection h1 with h1
    subst h1 h3
    refine ⟨by rw [List.length_set]; exact h.1, .inr ⟨q, cap, cur.setIfInBounds k v, rfl, hb, heap_setCell_same _ _ _ _ _ _ hg, hnc, hcm, by simpa using hcs, ?_⟩⟩
    rw [Array.toList_setIfInBounds, ← ht, List.take_set]
theorem row_puts {base e size q n cap : Nat} : ∀ (vs : List Value) (o : Nat) (w : World) (xs : List Value), w.ownsRow base e size (.slice (some ⟨q, 0, none⟩) n cap) n xs → o + vs.length ≤ xs.length →
    (w.setCells q o vs).ownsRow base e size (.slice (some ⟨q, 0, none⟩) n cap) n (xs.take o ++ vs ++ xs.drop (o + vs.length))
  | [], o, w, xs, h, _ => by simpa [World.setCells] using h
  | v :: vs, o, w, xs, h, hl => by
    rw [List.length_cons] at hl
    have h1 := row_puts vs (o + 1) _ _ (row_put h (k := o) v) (by rw [List.length_set]; omega)
    have e : (xs.set o v).take (o + 1) ++ vs ++ (xs.set o v).drop (o + 1 + vs.length) = xs.take o ++ (v :: vs) ++ xs.drop (o + (vs.length + 1)) := by
      rw [List.drop_set_of_lt (by omega), List.take_set, List.take_add_one, List.getElem?_eq_getElem (by omega : o < xs.length)]
      rw [List.set_append_right _ _ (by rw [List.length_take]; exact Nat.min_le_left ..)]
      rw [List.length_take, Nat.min_eq_left (by omega), Nat.sub_self]
      simp [show o + 1 + vs.length = o + (vs.length + 1) by omega]
    rw [e] at h1
    exact h1
theorem setCells_size (b : Nat) : ∀ (vs : List Value) (o : Nat) (w : World), (w.setCells b o vs).heap.size = w.heap.size
  | [], _, _ => rfl
  | _ :: vs, o, _ => (setCells_size b vs (o + 1) _).trans (by simp [World.setCell])
theorem setCells_block (b k : Nat) (hk : k ≠ b) : ∀ (vs : List Value) (o : Nat) (w : World), (w.setCells b o vs).heap[k]? = w.heap[k]?
  | [], _, _ => rfl
  | _ :: vs, o, _ => (setCells_block b k hk vs (o + 1) _).trans (Below.heap_setCell _ _ _ _ (show k ≠ b from hk))
theorem rowM_app (a b : List Ms) : rowM (a ++ b) = rowM a ++ rowM b := by unfold rowM; rw [List.flatMap_append]
theorem rowM_one (M : List Ms) : ∀ u ∈ rowM M, u.oneCell' = true := fun u hu => by
  unfold rowM at hu
  obtain ⟨m, _, hm⟩ := List.mem_flatMap.1 hu
  exact msg_one _ _ _ _ _ u hm
theorem add_lit0 (q j : Nat) : (⟨q, 0, none⟩ : Addr).add j = ⟨q, j, none⟩ := by unfold Addr.add; split <;> simp_all
theorem add_lit (q o j : Nat) : (⟨q, o, none⟩ : Addr).add j = ⟨q, o + j, none⟩ := by unfold Addr.add; split <;> simp_all
/-- The world behind the removal of the message at i. -/
def delW (w : World) (q i : Nat) (M : List Ms) : World := (((w.drew.setCells q (0 + i * 3) (rowM (M.drop (i + 1)))).setCells q ((M.length - 1) * 3) [.bool false, .int .i64 0, .slice none 0 0]))
set_option maxHeartbeats 4000000 in
theorem ndel_any (base q i cap : Nat) (M : List Ms) (w : World) (hi : i + 1 < M.length) (hrow : w.ownsRow base 54 3 (.slice (some ⟨q, 0, none⟩) M.length cap) M.length (rowM M)) :
    Calls Try.prog 86 #[.slice (some ⟨q, 0, none⟩) M.length cap, .int .i64 i, .int .i64 ((i : Int) + 1)] w fun e w' => e = .returned (.slice (some ⟨q, 0, none⟩) (M.length - 1) cap) ∧ w' = delW w q i M := by
  obtain ⟨hc, hm⟩ : M.length ≤ cap ∧ cap ≤ 9223372036854775807 := by
    obtain ⟨n, hn⟩ : ∃ n, M.length = n + 1 := ⟨M.length - 1, by omega⟩
    rw [hn] at hrow ⊢
    exact row_cap hrow
  have hrd : w.drew.ownsRow base 54 3 (.slice (some ⟨q, 0, none⟩) M.length cap) M.length (rowM M) := ownsRow_new hrow (nd (nr w))
  have hcell := World.ownsRow.cells hrd (g := q) rfl
  have hfree : ∀ j, w.drew.frozen? ⟨q, j, none⟩ = false := by
    obtain ⟨n, hn⟩ : ∃ n, M.length = n + 1 := ⟨M.length - 1, by omega⟩
    rw [hn] at hrd
    exact row_free hrd
  have hlen : (rowM M).length = M.length * 3 := rowM_length M
  obtain ⟨news, hnews⟩ : ∃ news, news = rowM (M.drop (i + 1)) := ⟨_, rfl⟩
  have hnl : news.length = (M.length - (i + 1)) * 3 := by rw [hnews, rowM_length, List.length_drop]
  have hsplit : rowM M = rowM (M.take (i + 1)) ++ news := by rw [hnews, ← rowM_app, List.take_append_drop]
  have htl : (rowM (M.take (i + 1))).length = (i + 1) * 3 := by rw [rowM_length, List.length_take]; congr 1; omega
  have s0 : Hid (∀ t u, news[t]? = some u → w.drew.cell? ((⟨q, (i + 1) * 3, none⟩ : Addr).add t) = some u) := fun t u hu => by
    have h := hcell ((i + 1) * 3 + t) u (by rw [hsplit, List.getElem?_append_right (by omega), htl, Nat.add_sub_cancel_left]; exact hu)
    rw [add_lit0] at h
    rw [add_lit]
    exact h
  have s2 : Hid (∀ u ∈ news, u.oneCell' = true) := fun u hu => by rw [hnews] at hu; exact rowM_one _ u hu
  have s3 : Hid (∀ t, t < news.length → (w.drew.cell? ⟨q, 0 + i * 3 + t, none⟩).isSome = true ∧ w.drew.frozen? ⟨q, 0 + i * 3 + t, none⟩ = false) := fun t ht => by
    have h := hcell (i * 3 + t) _ (List.getElem?_eq_getElem (by omega))
    rw [add_lit0] at h
    rw [Nat.zero_add]
    exact ⟨by rw [h]; rfl, hfree _⟩
  have r1 := row_puts news (0 + i * 3) w.drew (rowM M) hrd (by omega)
  have hcell1 := World.ownsRow.cells r1 (g := q) rfl
  have hl1 : ((rowM M).take (0 + i * 3) ++ news ++ (rowM M).drop (0 + i * 3 + news.length)).length = M.length * 3 := r1.1
  obtain ⟨W1, hW1⟩ : ∃ W1, W1 = w.drew.setCells q (0 + i * 3) news := ⟨_, rfl⟩
  have hfree1 : ∀ j, W1.frozen? ⟨q, j, none⟩ = false := by
    obtain ⟨n, hn⟩ : ∃ n, M.length = n + 1 := ⟨M.length - 1, by omega⟩
    rw [hn, ← hW1] at r1
    exact row_free r1
  have hcl := fun c ty => clear_msg W1 q ((M.length - 1) * 3) c ty (fun j hj => by
    have h := hcell1 ((M.length - 1) * 3 + j) _ (List.getElem?_eq_getElem (by omega))
    rw [← hW1, add_lit0] at h
    rw [h]; rfl) (fun j _ => hfree1 _)
  have hW : Hid (W1 = w.drew.setCells q (0 + i * 3) news) := hW1
  have hD : Hid (delW w q i M = W1.setCells q ((M.length - 1) * 3) [.bool false, .int .i64 0, .slice none 0 0]) := by unfold Hid delW; rw [hW1, hnews]
  obtain ⟨i0, hi0, hz0, hz1, hz2⟩ := info_parts msgInfo
  obtain ⟨n, hn⟩ : ∃ n, M.length = n := ⟨_, rfl⟩
  rw [hn] at hi hc hcl hD hnl ⊢
  have hnl' := Lib.hid hnl
  clear hrow hrd hcell hfree hlen hnews hnl hsplit htl r1 hcell1 hl1 hW1 hfree1 hn
  have hne : ((i : Int) == (i : Int) + 1) = false := by rw [beq_eq_false_iff_ne]; omega
  have hci : (i : Int) + 1 ≤ (cap : Int) := by omega
  have hci2 : (i : Int) + 1 ≤ (n : Int) := by omega
  have hcap : ¬ cap = i + 1 := by omega
  have hic : i ≤ cap := by omega
  have h0i : (0 : Int) ≤ (i : Int) + 1 := by omega
  have hjc : i + 1 ≤ cap := by omega
  have hjn : i + 1 ≤ n := by omega
  go_enter Try.func86, Try.ntmps86
  go_upto_region 5 with fail
  go_region_law (refine step_append_room rfl (.tmp 22) (.tmp 25) 60 rfl 54 i0 3 Try.underlying60 hi0 hz1 q 0 i cap (by simp [Act.eval, Act.put]) ⟨q, (i + 1) * 3, none⟩ (n - (i + 1)) (cap - (i + 1)) news (by simp [Act.eval, Act.put]) hnl'.out s0.out s2.out (by omega) s3.out ?_; rw [← hW.out])
  have e0 : i + (n - (i + 1)) = n - 1 := by omega
  have e1 : n - (n - 1) = 1 := by omega
  have e2 : ¬ cap = n - 1 := by omega
  have e3 : n - 1 ≤ n := by omega
  have e4 : n - 1 ≤ cap := by omega
  rw [e0]
  clear e0
  go_wp2_with fail
  go_ret
  exact ⟨rfl, hD.out.symm⟩
end Go.Proofs.Ytegpoghgddjmaaa
