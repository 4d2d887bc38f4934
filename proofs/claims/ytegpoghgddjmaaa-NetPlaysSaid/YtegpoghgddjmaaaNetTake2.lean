/- The walk of net.Take: of any message. -/
import Derived.Test.YtegpoghgddjmaaaNetDel2
namespace Go.Proofs.Ytegpoghgddjmaaa
open Go.RowKit
set_option maxRecDepth 100000

theorem delW_block (W : World) (q i : Nat) (M : List Ms) (k : Nat) (hk : k ≠ q) : (delW W q i M).heap[k]? = W.heap[k]? := by
  unfold delW
  rw [setCells_block q k hk, setCells_block q k hk]
  rfl
theorem delW_size (W : World) (q i : Nat) (M : List Ms) : (delW W q i M).heap.size = W.heap.size := by
  unfold delW
  rw [setCells_size, setCells_size]
  rfl
theorem setCells_os (b : Nat) : ∀ (vs : List Value) (o : Nat) (w : World), (w.setCells b o vs).os = w.os ∧ (w.setCells b o vs).tape = w.tape ∧ (w.setCells b o vs).output = w.output
  | [], _, _ => ⟨rfl, rfl, rfl⟩
  | _ :: vs, o, _ => setCells_os b vs (o + 1) _
theorem delW_os (W : World) (q i : Nat) (M : List Ms) : (delW W q i M).os = W.os ∧ (delW W q i M).tape = W.tape ∧ (delW W q i M).output = W.output := by
  unfold delW
  obtain ⟨a, b, c⟩ := setCells_os q [.bool false, .int .i64 0, .slice none 0 0] ((M.length - 1) * 3) (W.drew.setCells q (0 + i * 3) (rowM (M.drop (i + 1))))
  obtain ⟨a2, b2, c2⟩ := setCells_os q (rowM (M.drop (i + 1))) (0 + i * 3) W.drew
  exact ⟨a.trans a2, b.trans b2, c.trans c2⟩
theorem delW_row {W : World} {b q i cap : Nat} {M : List Ms} (hrow : W.ownsRow b 54 3 (.slice (some ⟨q, 0, none⟩) M.length cap) M.length (rowM M)) (hi : i + 1 < M.length) :
    (delW W q i M).ownsRow b 54 3 (.slice (some ⟨q, 0, none⟩) (M.length - 1) cap) (M.length - 1) (rowM (M.take i ++ M.drop (i + 1))) := by
  have hlen : (M.take i ++ M.drop (i + 1)).length = M.length - 1 := by rw [List.length_append, List.length_take, List.length_drop]; omega
  have hrd : W.drew.ownsRow b 54 3 (.slice (some ⟨q, 0, none⟩) M.length cap) M.length (rowM M) := ownsRow_new hrow (nd (nr W))
  have h1 := row_puts (rowM (M.drop (i + 1))) (0 + i * 3) W.drew (rowM M) hrd (by rw [rowM_length, rowM_length, List.length_drop]; omega)
  have hsp : (rowM M).take (0 + i * 3) = rowM (M.take i) := by
    have e : rowM M = rowM (M.take i) ++ rowM (M.drop i) := by rw [← rowM_app, List.take_append_drop]
    have hl : (rowM (M.take i)).length = 0 + i * 3 := by rw [rowM_length, List.length_take, Nat.zero_add]; congr 1; omega
    rw [e, ← hl, List.take_left]
  rw [hsp, ← rowM_app] at h1
  unfold delW
  generalize W.drew.setCells q (0 + i * 3) (rowM (M.drop (i + 1))) = W1 at *
  generalize (rowM M).drop (0 + i * 3 + (rowM (M.drop (i + 1))).length) = ys at h1
  have hk : (rowM (M.take i ++ M.drop (i + 1))).length = (M.length - 1) * 3 := by rw [rowM_length, hlen]
  generalize rowM (M.take i ++ M.drop (i + 1)) = xs at *
  obtain ⟨n, hn⟩ : ∃ n, M.length = n + 1 := ⟨M.length - 1, by omega⟩
  rw [hn] at h1 hk ⊢
  rw [Nat.add_sub_cancel] at hk ⊢
  have h2 := row_less h1 hk
  exact row_beyond (row_beyond (row_beyond h2 (n * 3) (Nat.le_refl _) (.bool false)) (n * 3 + 1) (by omega) (.int .i64 0)) (n * 3 + 1 + 1) (by omega) (.slice none 0 0)
/-- The net without one of its messages, not the last. -/
theorem nshrink2 {W : World} {g q cap i : Nat} {M : List Ms} (hN : OwnN W g (.slice (some ⟨q, 0, none⟩) M.length cap) M) (hi : i + 1 < M.length) :
    OwnN ((delW W q i M).setCell ⟨g, 0, none⟩ (.slice (some ⟨q, 0, none⟩) (M.length - 1) cap)) g (.slice (some ⟨q, 0, none⟩) (M.length - 1) cap) (M.take i ++ M.drop (i + 1)) ∧
    Grew W ((delW W q i M).setCell ⟨g, 0, none⟩ (.slice (some ⟨q, 0, none⟩) (M.length - 1) cap)) g (.slice (some ⟨q, 0, none⟩) M.length cap) (.slice (some ⟨q, 0, none⟩) (M.length - 1) cap) := by
  have hq : g + 1 ≤ q ∧ q < W.heap.size := World.ownsRow.lt hN.row q rfl
  have hgq : g ≠ q := by omega
  have hsub : ∀ x ∈ M.take i ++ M.drop (i + 1), x ∈ M := fun x hx => by
    rcases List.mem_append.1 hx with hx | hx
    · exact List.mem_of_mem_take hx
    · exact List.mem_of_mem_drop hx
  have hlen : (M.take i ++ M.drop (i + 1)).length = M.length - 1 := by rw [List.length_append, List.length_take, List.length_drop]; omega
  have h4 := delW_row hN.row hi
  have hblk : ∀ k, k ≠ q → (delW W q i M).heap[k]? = W.heap[k]? := fun k hk => delW_block W q i M k hk
  have hsz0 := delW_size W q i M
  obtain ⟨ho1, ho2, ho3⟩ := delW_os W q i M
  generalize delW W q i M = W1 at *
  have hsz : (W1.setCell ⟨g, 0, none⟩ (.slice (some ⟨q, 0, none⟩) (M.length - 1) cap)).heap.size = W.heap.size := by simpa [World.setCell] using hsz0
  have hcell := (World.cell?_of_block (hblk g hgq)).trans hN.c
  have hfr := (World.frozen?_of_block (hblk g hgq)).trans hN.f
  refine ⟨⟨World.cell?_setCell_same _ _ _ hcell, by rw [World.frozen?_setCell]; exact hfr, by rw [hsz]; exact hN.lt, by rw [hlen]; exact ownsRow_setCell_below h4 (by show g < g + 1; omega) _, fun x hx => ?_, fun x hx hp b off e => ?_⟩, ⟨?_, ?_, ?_, by rw [hsz]; exact Nat.le_refl _, fun k _ hkg hkv => ?_, .inl rfl⟩⟩
  · have hx' := hsub x hx
    refine ⟨(hN.data x hx').1.other (fun hp b off e hbl => ?_) (by rw [hsz]; exact Nat.le_refl _), (hN.data x hx').2⟩
    obtain ⟨k1, k2⟩ := hN.far x hx' hp b off e
    rw [Below.heap_setCell _ _ _ _ (show b ≠ g from k1)]
    exact hblk b (fun e => k2 (by rw [e]; rfl))
  · have hx' := hsub x hx
    obtain ⟨k1, k2⟩ := hN.far x hx' hp b off e
    exact ⟨k1, fun e2 => k2 e2⟩
  · exact ho1
  · exact ho2
  · exact ho3
  · rw [Below.heap_setCell _ _ _ _ (by exact hkg)]
    exact hblk k (fun e => hkv (by rw [e]; rfl))
theorem mem_less {M : List Ms} {i : Nat} {x : Ms} (hx : x ∈ M.take i ++ M.drop (i + 1)) : x ∈ M := by
  rcases List.mem_append.1 hx with hx | hx
  · exact List.mem_of_mem_take hx
  · exact List.mem_of_mem_drop hx
theorem cell_keep {W W9 : World} {g : Nat} {v : Value} (hb : W9.heap[g]? = W.heap[g]?) (hc : W.cell? ⟨g, 0, none⟩ = some v) : W9.cell? ⟨g, 0, none⟩ = some v := (World.cell?_of_block hb).trans hc
theorem frozen_keep {W W9 : World} {g : Nat} (hb : W9.heap[g]? = W.heap[g]?) (hc : W.frozen? ⟨g, 0, none⟩ = false) : W9.frozen? ⟨g, 0, none⟩ = false := (World.frozen?_of_block hb).trans hc
def NTakeMid (g q cap i : Nat) (M : List Ms) (m : Ms) (w : World) (e : Ending) (w' : World) : Prop :=
  ∃ A' c', e = .returned (.tuple #[MV m.a m.h A' m.n c', .bool true]) ∧ OwnN w' g (.slice (some ⟨q, 0, none⟩) (M.length - 1) cap) (M.take i ++ M.drop (i + 1)) ∧ Grew w w' g (.slice (some ⟨q, 0, none⟩) M.length cap) (.slice (some ⟨q, 0, none⟩) (M.length - 1) cap) ∧ Bytes w' w'.heap.size A' m.l ∧ (A' = none → c' = 0)
set_option maxHeartbeats 8000000 in
theorem ntake_mid (g q cap i : Nat) (M : List Ms) (m : Ms) (w : World) (hN : OwnN w g (.slice (some ⟨q, 0, none⟩) M.length cap) M) (hm : M[i]? = some m) (hi : i + 1 < M.length) (hl : m.n ≤ 140737488355328) :
    Calls Try.prog 43 #[.pointer (some ⟨g, 0, none⟩), .int .i64 i] w (NTakeMid g q cap i M m w) := by
  have hb1 : Below w.heap.size w (w.alloc (.cells #[.bool false, .int .i64 0, .slice none 0 0] 54)) := na (nr w) _
  have hr1 := MC.made w false 0 (.slice none 0 0) 54
  have hs1 : w.heap.size < (w.alloc (.cells #[.bool false, .int .i64 0, .slice none 0 0] 54)).heap.size := by simp
  have hN1 := hN.new_ hb1
  go_enter Try.func43, Try.ntmps43
  go_wp2_with fail
  refine (nlook_yes g _ _ i m _ hN1 hm hl).mono ?_
  rintro e w2 ⟨A', c', rfl, ho, hb2⟩
  have hN2 := hN1.new_ hb2
  have hr2 := hr1.keep (hb2.block w.heap.size hs1)
  have hb12 := nt hb1 hb2
  have HA := Lib.hid (And.intro ho.bytes.1 (own_nil ho))
  have hN3 := hN2.new_ (na (nr w2) (.cells #[.bool m.a, .int .i64 m.h, .slice A' m.n c'] 54))
  have hr3 := hr2.keep ((na (nr w2) (.cells #[.bool m.a, .int .i64 m.h, .slice A' m.n c'] 54)).block w.heap.size (Nat.lt_of_lt_of_le hs1 hb2.size))
  have hm3 := MC.made w2 m.a m.h (.slice A' m.n c') 54
  have hb13 := na hb12 (.cells #[.bool m.a, .int .i64 m.h, .slice A' m.n c'] 54)
  have hps : w.heap.size < w2.heap.size := Nat.lt_of_lt_of_le hs1 hb2.size
  have hqg : g < q ∧ q < w.heap.size := by have h := World.ownsRow.lt hN.row q rfl; exact ⟨by omega, h.2⟩
  have hgp := hN.lt
  have Hd : Hid (∀ x ∈ M.take i ++ M.drop (i + 1), 0 < x.l.length → ∀ b off, x.A = some ⟨b, off, none⟩ → b ≠ w.heap.size) := fun x hx hp b off e => by
    obtain ⟨b', off', e2, hb', _⟩ := (hN.data x (mem_less hx)).1 hp
    rw [e] at e2
    injection e2 with e2
    injection e2 with e2 _
    omega
  have HA' : Hid (0 < m.l.length → ∀ b off, A' = some ⟨b, off, none⟩ → w.heap.size < b) := fun hp b off e => by
    obtain ⟨b', e2, hb', _⟩ := ho.some_ hp
    rw [e] at e2
    injection e2 with e2
    injection e2 with e2 _
    omega
  clear hb1 hr1 hs1 hN1 hb2 hN2 hr2 hb12 ho hN
  go_upto_region 3 with fail
  have hA3 : Hid (Bytes (w2.alloc (.cells #[.bool m.a, .int .i64 m.h, .slice A' m.n c'] 54)) (w2.alloc (.cells #[.bool m.a, .int .i64 m.h, .slice A' m.n c'] 54)).heap.size A' m.l ∧ (A' = none → c' = 0)) := ⟨(HA.out.1.below (na (nr w2) _)).more (na (nr w2) _).size, HA.out.2⟩
  have hp2 : w2.heap.size < (w2.alloc (.cells #[.bool m.a, .int .i64 m.h, .slice A' m.n c'] 54)).heap.size := by simp
  clear HA
  generalize (w2.alloc (.cells #[.bool m.a, .int .i64 m.h, .slice A' m.n c'] 54)) = W3 at *
  generalize w2.heap.size = p2 at *
  obtain ⟨q', c'', e, _, _, k0, k1, k2⟩ := hN3.cells hm
  obtain ⟨rfl, rfl⟩ : q = q' ∧ cap = c'' := by
    injection e with e1 e2 e3
    injection e1 with e1
    injection e1 with e1
    exact ⟨e1, e3⟩
  clear e
  have hrow := hN3.row
  have c1 := hN3.c
  obtain ⟨hS, hG⟩ := nshrink2 hN3 hi
  have HS := Lib.hid (And.intro hS hG)
  have hmp := hr3.keep (hG.block w.heap.size (by omega) (by omega) (own_ne (by omega)))
  have hmq := hm3.keep (hG.block p2 (by omega) (by omega) (own_ne (by omega)))
  obtain ⟨z0, z1, z2⟩ := hmp.put3 m.a m.h (.slice A' m.n c')
  obtain ⟨u0, u1, u2, t0, t1, t2⟩ := hmq
  obtain ⟨r0, r1, r2, s0, s1, s2⟩ := hmp
  have hgc : (delW W3 q i M).cell? ⟨g, 0, none⟩ = some (.slice (some ⟨q, 0, none⟩) M.length cap) := by
    exact cell_keep (delW_block W3 q i M g (by omega)) hN3.c
  have hgf : (delW W3 q i M).frozen? ⟨g, 0, none⟩ = false := by
    exact frozen_keep (delW_block W3 q i M g (by omega)) hN3.f
  have hcap := row_cap hrow
  have hi64 : (i : Int) + 1 ≤ 9223372036854775807 := by omega
  have hcall := Lib.hid (ndel_any _ q i cap M W3 hi hrow)
  clear hS hG hN3 hrow
  generalize hW4 : delW W3 q i M = W4 at *
  have HW4 := Lib.hid hW4
  clear hW4
  go_wp2_with fail
  refine hcall.out.mono ?_
  rintro e w4 ⟨rfl, rfl⟩
  have hgq : g ≠ q := by omega
  clear k0 k1 k2 c1 hcall
  go_upto_region 4 with fail
  generalize hW5 : w4.setCell ⟨g, 0, none⟩ (.slice (some ⟨q, 0, none⟩) (M.length - 1) cap) = W5 at *
  have HW5 := Lib.hid hW5
  clear hW5 hgc hgf
  go_wp2_with fail
  refine bodyPost_ret (v := .tuple #[MV m.a m.h A' m.n c', .bool true]) (by simp [results, Try.results43, go_sem, z0, z1, z2]) rfl ?_
  have hS2 := HS.out.2
  have hA5 : Bytes W5 W3.heap.size A' m.l := hA3.out.1.other (fun hp b off e hbl => by
    have hb := HA'.out hp b off e
    exact hS2.block b hbl (by omega) (own_ne (by omega))) (Nat.le_refl _)
  have hne : 0 < m.l.length → ∀ b off, A' = some ⟨b, off, none⟩ → b ≠ w.heap.size := fun hp b off e => by have := HA'.out hp b off e; omega
  have hG := (Grew.of_below hb13 g (.slice (some ⟨q, 0, none⟩) M.length cap)).trans hS2
  refine ⟨A', c', rfl, ?_, ?_, ?_, hA3.out.2⟩
  · exact ((HS.out.1.put3 hgp (own_ne (by omega)) Hd.out _ _).put3 hgp (own_ne (by omega)) Hd.out _ _).put3 hgp (own_ne (by omega)) Hd.out _ _
  · exact ((hG.put _ _ _ (Nat.le_refl _)).put _ _ _ (Nat.le_refl _)).put _ _ _ (Nat.le_refl _)
  · have h := ((hA5.put (j := 0) (u := .bool m.a) hne).put (j := 1) (u := .int .i64 m.h) hne).put (j := 2) (u := .slice A' m.n c') hne
    refine h.more ?_
    simpa [World.setCell] using hS2.size
end Go.Proofs.Ytegpoghgddjmaaa
