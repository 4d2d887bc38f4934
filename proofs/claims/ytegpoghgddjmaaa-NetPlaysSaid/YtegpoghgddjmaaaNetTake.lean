/- The walk of net.Take: of the last message, of none. -/
import Derived.Test.YtegpoghgddjmaaaNetDel
namespace Go.Proofs.Ytegpoghgddjmaaa
open Go.RowKit
set_option maxRecDepth 100000

theorem row_less {w : World} {base e size q n cap : Nat} {xs ys : List Value} (h : w.ownsRow base e size (.slice (some ⟨q, 0, none⟩) (n + 1) cap) (n + 1) (xs ++ ys)) (hx : xs.length = n * size) : w.ownsRow base e size (.slice (some ⟨q, 0, none⟩) n cap) n xs := by
  rcases h.2 with ⟨h0, _⟩ | ⟨g', cap', cur, hv, hb, hg, hnc, hcm, hcs, ht⟩
  · cases h0
  · injection hv with h1 h2 h3
    injection h1 with h1
    injection h1 with h1
    subst h1 h3
    refine ⟨hx, .inr ⟨q, cap, cur, rfl, hb, hg, by omega, hcm, hcs, ?_⟩⟩
    have := congrArg (List.take (n * size)) ht
    rw [List.take_take, Nat.min_eq_left (Nat.mul_le_mul_right _ (Nat.le_succ n)), List.take_append_of_le_length (by omega), (List.take_of_length_le (by omega) : xs.take (n * size) = xs)] at this
    exact this
theorem row_beyond {w : World} {base e size q n cap : Nat} {xs : List Value} (h : w.ownsRow base e size (.slice (some ⟨q, 0, none⟩) n cap) n xs) (k : Nat) (hk : n * size ≤ k) (v : Value) : (w.setCell ⟨q, k, none⟩ v).ownsRow base e size (.slice (some ⟨q, 0, none⟩) n cap) n xs := by
  rcases h.2 with ⟨h0, _⟩ | ⟨g', cap', cur, hv, hb, hg, hnc, hcm, hcs, ht⟩
  · cases h0
  · injection hv with h1 h2 h3
    injection h1 with h1
    injection h1 with h1
    subst h1 h3
    refine ⟨h.1, .inr ⟨q, cap, cur.setIfInBounds k v, rfl, hb, heap_setCell_same _ _ _ _ _ _ hg, hnc, hcm, by simpa using hcs, ?_⟩⟩
    rw [Array.toList_setIfInBounds, List.take_set_of_le hk]
    exact ht
theorem row_free {w : World} {base e size q n cap : Nat} {xs : List Value} (h : w.ownsRow base e size (.slice (some ⟨q, 0, none⟩) n cap) n xs) (j : Nat) : w.frozen? ⟨q, j, none⟩ = false := by
  rcases h.2 with ⟨h0, _⟩ | ⟨g', cap', cur, hv, hb, hg, _⟩
  · cases h0
  · injection hv with h1
    injection h1 with h1
    injection h1 with h1
    subst h1
    exact frozen_of_row _ _ _ _ _ hg
theorem row_cap {w : World} {base e size q n cap : Nat} {xs : List Value} (h : w.ownsRow base e size (.slice (some ⟨q, 0, none⟩) n cap) n xs) : n ≤ cap ∧ cap ≤ 9223372036854775807 := by
  rcases h.2 with ⟨h0, _⟩ | ⟨g', cap', cur, hv, hb, hg, hnc, hcm, _⟩
  · cases h0
  · injection hv with h1 h2 h3
    subst h3
    exact ⟨hnc, by simpa [maxLen] using hcm⟩
theorem rowM_length (M : List Ms) : (rowM M).length = M.length * 3 := by
  induction M with
  | nil => rfl
  | cons m M ih => show (m.cells ++ rowM M).length = _; rw [List.length_append, ih]; show 3 + _ = _; rw [List.length_cons]; omega
/-- The net without its last message. -/
theorem nshrink {W : World} {g q cap : Nat} {M0 : List Ms} {m : Ms} (hN : OwnN W g (.slice (some ⟨q, 0, none⟩) (M0.length + 1) cap) (M0 ++ [m])) (c0 c1 c2 : Value) :
    OwnN ((((W.setCell ⟨q, M0.length * 3, none⟩ c0).setCell ⟨q, M0.length * 3 + 1, none⟩ c1).setCell ⟨q, M0.length * 3 + 2, none⟩ c2).setCell ⟨g, 0, none⟩ (.slice (some ⟨q, 0, none⟩) M0.length cap)) g (.slice (some ⟨q, 0, none⟩) M0.length cap) M0 ∧
    Grew W ((((W.setCell ⟨q, M0.length * 3, none⟩ c0).setCell ⟨q, M0.length * 3 + 1, none⟩ c1).setCell ⟨q, M0.length * 3 + 2, none⟩ c2).setCell ⟨g, 0, none⟩ (.slice (some ⟨q, 0, none⟩) M0.length cap)) g (.slice (some ⟨q, 0, none⟩) (M0.length + 1) cap) (.slice (some ⟨q, 0, none⟩) M0.length cap) := by
  have hq : g + 1 ≤ q ∧ q < W.heap.size := World.ownsRow.lt hN.row q rfl
  have hgq : g ≠ q := by omega
  have hrow : W.ownsRow (g + 1) 54 3 (.slice (some ⟨q, 0, none⟩) (M0.length + 1) cap) (M0.length + 1) (rowM M0 ++ m.cells) := by
    have h := hN.row
    have e : rowM (M0 ++ [m]) = rowM M0 ++ m.cells := by unfold rowM; rw [List.flatMap_append]; simp
    rw [e, List.length_append] at h
    exact h
  have h1 := row_less hrow (rowM_length M0)
  have h2 := row_beyond (row_beyond (row_beyond h1 (M0.length * 3) (Nat.le_refl _) c0) (M0.length * 3 + 1) (by omega) c1) (M0.length * 3 + 2) (by omega) c2
  have hblk : ∀ k, k ≠ q → (((W.setCell ⟨q, M0.length * 3, none⟩ c0).setCell ⟨q, M0.length * 3 + 1, none⟩ c1).setCell ⟨q, M0.length * 3 + 2, none⟩ c2).heap[k]? = W.heap[k]? := fun k hk => by
    rw [Below.heap_setCell _ _ _ _ (show k ≠ q from hk), Below.heap_setCell _ _ _ _ (show k ≠ q from hk), Below.heap_setCell _ _ _ _ (show k ≠ q from hk)]
  have hsz : ((((W.setCell ⟨q, M0.length * 3, none⟩ c0).setCell ⟨q, M0.length * 3 + 1, none⟩ c1).setCell ⟨q, M0.length * 3 + 2, none⟩ c2).setCell ⟨g, 0, none⟩ (.slice (some ⟨q, 0, none⟩) M0.length cap)).heap.size = W.heap.size := by simp [World.setCell]
  have hcell := (World.cell?_of_block (hblk g hgq)).trans hN.c
  have hfr := (World.frozen?_of_block (hblk g hgq)).trans hN.f
  refine ⟨⟨World.cell?_setCell_same _ _ _ hcell, by rw [World.frozen?_setCell]; exact hfr, by rw [hsz]; exact hN.lt, ownsRow_setCell_below h2 (by show g < g + 1; omega) _, fun x hx => ?_, fun x hx hp b off e => ?_⟩, ⟨rfl, rfl, rfl, by rw [hsz]; exact Nat.le_refl _, fun k _ hkg hkv => ?_, .inl rfl⟩⟩
  · have hx' : x ∈ M0 ++ [m] := List.mem_append_left _ hx
    refine ⟨(hN.data x hx').1.other (fun hp b off e hbl => ?_) (by rw [hsz]; exact Nat.le_refl _), (hN.data x hx').2⟩
    obtain ⟨k1, k2⟩ := hN.far x hx' hp b off e
    rw [Below.heap_setCell _ _ _ _ (show b ≠ g from k1)]
    exact hblk b (fun e => k2 (by rw [e]; rfl))
  · have hx' : x ∈ M0 ++ [m] := List.mem_append_left _ hx
    obtain ⟨k1, k2⟩ := hN.far x hx' hp b off e
    exact ⟨k1, fun e2 => k2 e2⟩
  · rw [Below.heap_setCell _ _ _ _ (by exact hkg)]
    exact hblk k (fun e => hkv (by rw [e]; rfl))

/-- Three cells written at a message's block. -/
theorem MC.put3 {W : World} {p : Nat} {a : Bool} {h : Int} {v : Value} (k : MC W p a h v) (a' : Bool) (h' : Int) (v' : Value) :
    (W.setCell ⟨p, 0, none⟩ (.bool a')).cell? ⟨p, 0, none⟩ = some (.bool a') ∧ ((W.setCell ⟨p, 0, none⟩ (.bool a')).setCell ⟨p, 1, none⟩ (.int .i64 h')).cell? ⟨p, 1, none⟩ = some (.int .i64 h') ∧ (((W.setCell ⟨p, 0, none⟩ (.bool a')).setCell ⟨p, 1, none⟩ (.int .i64 h')).setCell ⟨p, 2, none⟩ v').cell? ⟨p, 2, none⟩ = some v' :=
  ⟨World.cell?_setCell_same _ _ _ k.c0, World.cell?_setCell_same _ _ _ ((World.cell?_setCell_other _ _ _ _ (by simp)).trans k.c1), World.cell?_setCell_same _ _ _ ((World.cell?_setCell_other _ _ _ _ (by simp)).trans ((World.cell?_setCell_other _ _ _ _ (by simp)).trans k.c2))⟩
theorem OwnN.put3 {W : World} {g p : Nat} {v : Value} {M : List Ms} (hN : OwnN W g v M) (hp : g < p) (hv : v.ownBlock ≠ some p) (hd : ∀ m ∈ M, 0 < m.l.length → ∀ b off, m.A = some ⟨b, off, none⟩ → b ≠ p) (j : Nat) (u : Value) : OwnN (W.setCell ⟨p, j, none⟩ u) g v M := by
  have hb : ∀ k, k ≠ p → (W.setCell ⟨p, j, none⟩ u).heap[k]? = W.heap[k]? := fun k hk => Below.heap_setCell _ _ _ _ (show k ≠ p from hk)
  have hsz : (W.setCell ⟨p, j, none⟩ u).heap.size = W.heap.size := by simp [World.setCell]
  refine ⟨(World.cell?_of_block (hb g (by omega))).trans hN.c, (World.frozen?_of_block (hb g (by omega))).trans hN.f, by rw [hsz]; exact hN.lt, ?_, fun x hx => ⟨(hN.data x hx).1.other (fun hp' b off e _ => hb b (hd x hx hp' b off e)) (by rw [hsz]; exact Nat.le_refl _), (hN.data x hx).2⟩, hN.far⟩
  obtain ⟨h1, h2⟩ := hN.row
  refine ⟨h1, ?_⟩
  rcases h2 with h2 | ⟨q, cap, cur, rfl, hbg, hg, r⟩
  · exact .inl h2
  · exact .inr ⟨q, cap, cur, rfl, hbg, (hb q (fun e => hv (by rw [e]; rfl))).trans hg, r⟩
set_option maxHeartbeats 4000000 in
theorem ntake_no (g : Nat) (v : Value) (M : List Ms) (i : Int) (w : World) (hN : OwnN w g v M) (hi : i < 0 ∨ (M.length : Int) ≤ i) :
    Calls Try.prog 43 #[.pointer (some ⟨g, 0, none⟩), .int .i64 i] w fun e w' => e = .returned (.tuple #[MV false 0 none 0 0, .bool false]) ∧ Below w.heap.size w w' := by
  have hb1 : Below w.heap.size w (w.alloc (.cells #[.bool false, .int .i64 0, .slice none 0 0] 54)) := na (nr w) _
  have hr1 := MC.made w false 0 (.slice none 0 0) 54
  have hs1 : w.heap.size < (w.alloc (.cells #[.bool false, .int .i64 0, .slice none 0 0] 54)).heap.size := by simp
  have hN1 := hN.new_ hb1
  go_enter Try.func43, Try.ntmps43
  go_wp2_with fail
  refine (nlook_no g v M i _ hN1 hi).mono ?_
  rintro e w2 ⟨rfl, hb2⟩
  have hb3 := na (nt hb1 hb2) (.cells #[.bool false, .int .i64 0, .slice none 0 0] 54)
  have hm := MC.made w2 false 0 (.slice none 0 0) 54
  have hr3 := (hr1.keep (hb2.block w.heap.size hs1)).keep ((na (nr w2) (.cells #[.bool false, .int .i64 0, .slice none 0 0] 54)).block w.heap.size (Nat.lt_of_lt_of_le hs1 hb2.size))
  obtain ⟨p0, p1, p2, _, _, _⟩ := hm
  obtain ⟨z0, z1, z2⟩ := hr3.put3 false 0 (.slice none 0 0)
  obtain ⟨r0, r1, r2, s0, s1, s2⟩ := hr3
  clear hb1 hr1 hs1 hN1 hN hb2
  go_wp2_with fail
  refine bodyPost_ret (v := .tuple #[MV false 0 none 0 0, .bool false]) (by simp [results, Try.results43, go_sem, z0, z1, z2]) rfl ⟨rfl, ?_⟩
  exact ((hb3.setCell (Nat.le_refl _) _).setCell (Nat.le_refl _) _).setCell (Nat.le_refl _) _

theorem Grew.put {w W : World} {g : Nat} {v v1 : Value} (h : Grew w W g v v1) (p j : Nat) (u : Value) (hp : w.heap.size ≤ p) : Grew w (W.setCell ⟨p, j, none⟩ u) g v v1 :=
  ⟨h.os, h.tape, h.output, by simpa [World.setCell] using h.size, fun k hk hkg hkv => (Below.heap_setCell _ _ _ _ (show k ≠ p by omega)).trans (h.block k hk hkg hkv), h.own⟩
theorem Bytes.put {W : World} {B p j : Nat} {u : Value} {A : Option Addr} {l : List UInt8} (h : Bytes W B A l) (hp : 0 < l.length → ∀ b off, A = some ⟨b, off, none⟩ → b ≠ p) : Bytes (W.setCell ⟨p, j, none⟩ u) B A l :=
  h.other (fun hl b off e _ => Below.heap_setCell _ _ _ _ (show b ≠ p from hp hl b off e)) (Nat.le_refl _)
theorem own_ne {q p n c : Nat} (h : q ≠ p) : (Value.slice (some ⟨q, 0, none⟩) n c).ownBlock ≠ some p := fun e => h (by simpa [Value.ownBlock] using e)
def NTakeYes (g q cap : Nat) (M0 : List Ms) (m : Ms) (w : World) (e : Ending) (w' : World) : Prop :=
  ∃ A' c', e = .returned (.tuple #[MV m.a m.h A' m.n c', .bool true]) ∧ OwnN w' g (.slice (some ⟨q, 0, none⟩) M0.length cap) M0 ∧ Grew w w' g (.slice (some ⟨q, 0, none⟩) (M0.length + 1) cap) (.slice (some ⟨q, 0, none⟩) M0.length cap) ∧ Bytes w' w'.heap.size A' m.l ∧ (A' = none → c' = 0)
set_option maxHeartbeats 8000000 in
theorem ntake_last (g q cap : Nat) (M0 : List Ms) (m : Ms) (w : World) (hN : OwnN w g (.slice (some ⟨q, 0, none⟩) (M0.length + 1) cap) (M0 ++ [m])) (hl : m.n ≤ 140737488355328) :
    Calls Try.prog 43 #[.pointer (some ⟨g, 0, none⟩), .int .i64 M0.length] w (NTakeYes g q cap M0 m w) := by
  have hb1 : Below w.heap.size w (w.alloc (.cells #[.bool false, .int .i64 0, .slice none 0 0] 54)) := na (nr w) _
  have hr1 := MC.made w false 0 (.slice none 0 0) 54
  have hs1 : w.heap.size < (w.alloc (.cells #[.bool false, .int .i64 0, .slice none 0 0] 54)).heap.size := by simp
  have hN1 := hN.new_ hb1
  have hm : (M0 ++ [m])[M0.length]? = some m := by simp
  go_enter Try.func43, Try.ntmps43
  go_wp2_with fail
  refine (nlook_yes g _ _ M0.length m _ hN1 hm hl).mono ?_
  rintro e w2 ⟨A', c', rfl, ho, hb2⟩
  have hN2 := hN1.new_ hb2
  have hr2 := hr1.keep (hb2.block w.heap.size hs1)
  have hb12 := nt hb1 hb2
  have HA := Lib.hid (And.intro ho.bytes.1 (own_nil ho))
  have hN3 := hN2.new_ (na (nr w2) (.cells #[.bool m.a, .int .i64 m.h, .slice A' m.n c'] 54))
  have hr3 := hr2.keep ((na (nr w2) (.cells #[.bool m.a, .int .i64 m.h, .slice A' m.n c'] 54)).block w.heap.size (Nat.lt_of_lt_of_le hs1 hb2.size))
  have hm3 := MC.made w2 m.a m.h (.slice A' m.n c') 54
  have hb13 := na hb12 (.cells #[.bool m.a, .int .i64 m.h, .slice A' m.n c'] 54)
  have hps : w.heap.size < w2.heap.size := Nat.lt_of_lt_of_le hs1 hb2.size
  have hqg : g < q ∧ q < w.heap.size := by have h := World.ownsRow.lt hN.row q rfl; exact ⟨by omega, h.2⟩
  have hgp := hN.lt
  have Hd : Hid (∀ x ∈ M0, 0 < x.l.length → ∀ b off, x.A = some ⟨b, off, none⟩ → b ≠ w.heap.size) := fun x hx hp b off e => by
    obtain ⟨b', off', e2, hb', _⟩ := (hN.data x (List.mem_append_left _ hx)).1 hp
    rw [e] at e2
    injection e2 with e2
    injection e2 with e2 _
    omega
  have HA' : Hid (0 < m.l.length → ∀ b off, A' = some ⟨b, off, none⟩ → w.heap.size < b) := fun hp b off e => by
    obtain ⟨b', e2, hb', _⟩ := ho.some_ hp
    rw [e] at e2
    injection e2 with e2
    injection e2 with e2 _
    omega
  clear hb1 hr1 hs1 hN1 hb2 hN2 hr2 hb12 ho hN
  go_upto_region 3 with fail
  have hA3 : Hid (Bytes (w2.alloc (.cells #[.bool m.a, .int .i64 m.h, .slice A' m.n c'] 54)) (w2.alloc (.cells #[.bool m.a, .int .i64 m.h, .slice A' m.n c'] 54)).heap.size A' m.l ∧ (A' = none → c' = 0)) := ⟨(HA.out.1.below (na (nr w2) _)).more (na (nr w2) _).size, HA.out.2⟩
  have hp2 : w2.heap.size < (w2.alloc (.cells #[.bool m.a, .int .i64 m.h, .slice A' m.n c'] 54)).heap.size := by simp
  clear HA
  generalize (w2.alloc (.cells #[.bool m.a, .int .i64 m.h, .slice A' m.n c'] 54)) = W3 at *
  generalize w2.heap.size = p2 at *
  obtain ⟨q', c'', e, _, _, k0, k1, k2⟩ := hN3.cells hm
  obtain ⟨rfl, rfl⟩ : q = q' ∧ cap = c'' := by
    injection e with e1 e2 e3
    injection e1 with e1
    injection e1 with e1
    exact ⟨e1, e3⟩
  clear e
  have hrow := hN3.row
  rw [List.length_append] at hrow
  have hcap := row_cap hrow
  have hfr := row_free hrow
  have c1 := hN3.c
  have hNd := hN3.new_ (nd (nr W3))
  obtain ⟨hS, hG⟩ := nshrink hNd (.bool false) (.int .i64 0) (.slice none 0 0)
  have HS := Lib.hid (And.intro hS hG)
  have hmp := hr3.keep (hG.block w.heap.size (by show w.heap.size < W3.heap.size; omega) (by omega) (own_ne (by omega)))
  have hmq := hm3.keep (hG.block p2 (by show p2 < W3.heap.size; omega) (by omega) (own_ne (by omega)))
  obtain ⟨z0, z1, z2⟩ := hmp.put3 m.a m.h (.slice A' m.n c')
  obtain ⟨u0, u1, u2, t0, t1, t2⟩ := hmq
  obtain ⟨r0, r1, r2, s0, s1, s2⟩ := hmp
  have hgc : (((W3.drew.setCell ⟨q, M0.length * 3, none⟩ (.bool false)).setCell ⟨q, M0.length * 3 + 1, none⟩ (.int .i64 0)).setCell ⟨q, M0.length * 3 + 2, none⟩ (.slice none 0 0)).cell? ⟨g, 0, none⟩ = some (.slice (some ⟨q, 0, none⟩) (M0.length + 1) cap) := by
    refine (World.cell?_of_block (w := W3) ?_).trans hN3.c
    rw [Below.heap_setCell _ _ _ _ (show g ≠ q by omega), Below.heap_setCell _ _ _ _ (show g ≠ q by omega), Below.heap_setCell _ _ _ _ (show g ≠ q by omega)]
    rfl
  have hgf : (((W3.drew.setCell ⟨q, M0.length * 3, none⟩ (.bool false)).setCell ⟨q, M0.length * 3 + 1, none⟩ (.int .i64 0)).setCell ⟨q, M0.length * 3 + 2, none⟩ (.slice none 0 0)).frozen? ⟨g, 0, none⟩ = false := by
    rw [World.frozen?_setCell, World.frozen?_setCell, World.frozen?_setCell]
    exact hN3.f
  have HN3 := Lib.hid hN3
  clear hS hG hNd hrow hN3
  go_wp2_with fail
  refine (ndel_last q M0.length cap W3 (by have := hcap.1; simpa using this) hcap.2 _ _ _ k0 k1 k2 (hfr _) (hfr _) (hfr _)).mono ?_
  rintro e w4 ⟨rfl, rfl⟩
  have hgq : g ≠ q := by omega
  generalize hW4 : ((W3.drew.setCell ⟨q, M0.length * 3, none⟩ (.bool false)).setCell ⟨q, M0.length * 3 + 1, none⟩ (.int .i64 0)).setCell ⟨q, M0.length * 3 + 2, none⟩ (.slice none 0 0) = W4 at *
  have HW4 := Lib.hid hW4
  clear hW4 k0 k1 k2 hfr c1 hcap
  go_upto_region 4 with fail
  generalize hW5 : W4.setCell ⟨g, 0, none⟩ (.slice (some ⟨q, 0, none⟩) M0.length cap) = W5 at *
  have HW5 := Lib.hid hW5
  clear hW5 hgc hgf
  go_wp2_with fail
  refine bodyPost_ret (v := .tuple #[MV m.a m.h A' m.n c', .bool true]) (by simp [results, Try.results43, go_sem, z0, z1, z2]) rfl ?_
  have hS2 := HS.out.2
  have hA5 : Bytes W5 W3.heap.size A' m.l := hA3.out.1.other (fun hp b off e hbl => by
    have hb := HA'.out hp b off e
    exact hS2.block b hbl (by omega) (own_ne (by omega))) (Nat.le_refl _)
  have hne : 0 < m.l.length → ∀ b off, A' = some ⟨b, off, none⟩ → b ≠ w.heap.size := fun hp b off e => by have := HA'.out hp b off e; omega
  have hG := (Grew.of_below (nd hb13) g (.slice (some ⟨q, 0, none⟩) (M0.length + 1) cap)).trans hS2
  refine ⟨A', c', rfl, ?_, ?_, ?_, hA3.out.2⟩
  · exact ((HS.out.1.put3 hgp (own_ne (by omega)) Hd.out _ _).put3 hgp (own_ne (by omega)) Hd.out _ _).put3 hgp (own_ne (by omega)) Hd.out _ _
  · exact ((hG.put _ _ _ (Nat.le_refl _)).put _ _ _ (Nat.le_refl _)).put _ _ _ (Nat.le_refl _)
  · have h := ((hA5.put (j := 0) (u := .bool m.a) hne).put (j := 1) (u := .int .i64 m.h) hne).put (j := 2) (u := .slice A' m.n c') hne
    refine h.more ?_
    simpa [World.setCell] using hS2.size
end Go.Proofs.Ytegpoghgddjmaaa
