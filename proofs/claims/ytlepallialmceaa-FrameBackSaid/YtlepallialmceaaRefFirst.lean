/- The walk of the document's First. -/
import Derived.Test.YtlepallialmceaaPlainTells
import Derived.Test.YtlepallialmceaaFrameRef
namespace Go.Proofs.Ytlepallialmceaa
open Go.RowKit

theorem parts9 (D : List UInt8) (h : 9 ≤ D.length) : ∃ x a b c d e f g i r, D = x :: a :: b :: c :: d :: e :: f :: g :: i :: r := by
  match D, h with
  | x :: a :: b :: c :: d :: e :: f :: g :: i :: r, _ => exact ⟨x, a, b, c, d, e, f, g, i, r, rfl⟩
theorem first_says (D : List UInt8) (N : Nat) (h0 : D[0]? = some 165) (hl : 9 + N ≤ D.length) (hN : num4 (D.drop 1) = N) :
    (wrap ((D.drop 9).take N) = D.take (9 + N)) ↔ Crc.more 0 (nums (D.take 5 ++ (D.drop 9).take N)) = num4 (D.drop 5) := by
  obtain ⟨x, a, b, c, d, e, f, g, i, r, rfl⟩ := parts9 D (by omega)
  have hx : x = 165 := by injection h0
  subst hx
  have e9 : (165 :: a :: b :: c :: d :: e :: f :: g :: i :: r).drop 9 = r := rfl
  have hr : (r.take N).length = N := by rw [List.length_take]; simp only [List.length_cons] at hl; omega
  have hf : four N = [a, b, c, d] := by rw [← hN]; exact four_num4 (l := [a, b, c, d]) rfl
  have et : (165 :: a :: b :: c :: d :: e :: f :: g :: i :: r).take (9 + N) = 165 :: a :: b :: c :: d :: ([e, f, g, i] ++ r.take N) := by rw [Nat.add_comm]; rfl
  have ef : fsum (r.take N) = Crc.more 0 (nums (165 :: a :: b :: c :: d :: r.take N)) := by unfold fsum; rw [hr, hf]; rfl
  have es : fsum (r.take N) < 4294967296 := fsum_lt _
  rw [e9, et, wrap_eq, hr, hf]
  show (165 :: a :: b :: c :: d :: (four (fsum (r.take N)) ++ r.take N) = _) ↔ Crc.more 0 (nums (165 :: a :: b :: c :: d :: r.take N)) = num4 [e, f, g, i]
  rw [← ef]
  constructor
  · intro h
    injection h with _ h; injection h with _ h; injection h with _ h; injection h with _ h; injection h with _ h
    have := List.append_cancel_right h
    have e2 := num4_four (fsum (r.take N)) es []
    rw [List.append_nil, this] at e2
    exact e2.symm
  · intro h
    rw [h, four_num4 (l := [e, f, g, i]) rfl]
theorem Bytes.drop_ {w : World} {B bl off : Nat} {l : List UInt8} (hA : Bytes w B (some ⟨bl, off, none⟩) l) (k : Nat) : Bytes w B (some ⟨bl, off + k, none⟩) (l.drop k) := by
  intro hne
  obtain ⟨b', off', e, hb', hc⟩ := hA (by rw [List.length_drop] at hne; omega)
  injection e with e
  injection e with e1 e2
  subst e1 e2
  exact ⟨_, _, rfl, hb', fun j y hy => by rw [Nat.add_assoc, Nat.add_comm k j]; exact hc _ _ (by rw [← hy, List.getElem?_drop, Nat.add_comm])⟩

def RFirstPost (b : List UInt8) (B : Nat) (w : World) (e : Ending) (w' : World) : Prop :=
  ∃ A' c, e = .returned (.agg #[.slice A' (first b).1.length c, .int .i64 ((first b).2.1 : Nat), .int .i64 (first b).2.2]) ∧ Bytes w' B A' (first b).1 ∧ Below w.heap.size w w'
theorem RFirstPost.no {b : List UInt8} {B : Nat} {w w' : World} {e : Ending} (k : Int) (h : first b = ([], 0, k)) (he : e = .returned (.agg #[.slice none 0 0, .int .i64 0, .int .i64 k])) (hb : Below w.heap.size w w') : RFirstPost b B w e w' := by
  unfold RFirstPost
  rw [h]
  exact ⟨none, 0, he, Bytes.nil_ _, hb⟩

theorem RFirstPost.yes {b P : List UInt8} {B : Nat} {w w' : World} {e : Ending} {A : Option Addr} {n c m : Nat} (hn : P.length = n) (h : first b = (P, m, 0)) (he : e = .returned (.agg #[.slice A n c, .int .i64 m, .int .i64 0])) (hA : Bytes w B A P) (hB : B ≤ w.heap.size) (hb : Below w.heap.size w w') : RFirstPost b B w e w' := by
  unfold RFirstPost
  subst hn
  rw [h]
  exact ⟨A, c, he, hA.below (hb.mono hB), hb⟩

/-- The number of four bytes, from the last one on: behind j of them. -/
def numTo (x1 x2 x3 x4 : UInt8) : Nat → Nat
  | 0 => 0
  | 1 => x4.toNat
  | 2 => 256 * x4.toNat + x3.toNat
  | 3 => 65536 * x4.toNat + 256 * x3.toNat + x2.toNat
  | _ => 16777216 * x4.toNat + 65536 * x3.toNat + 256 * x2.toNat + x1.toNat

theorem w64_in (n : Int) (h : -9223372036854775808 ≤ n ∧ n ≤ 9223372036854775807) : wrap64 n = n := by unfold wrap64; omega
theorem numTo_1 {x1 x2 x3 x4 : UInt8} (l : x1.toNat < 2 ^ 8 ∧ x2.toNat < 2 ^ 8 ∧ x3.toNat < 2 ^ 8 ∧ x4.toNat < 2 ^ 8) : wrap64 (wrap64 (256 * (numTo x1 x2 x3 x4 0 : Int)) + (x4.toNat : Int)) = (numTo x1 x2 x3 x4 1 : Int) := by
  simp only [numTo]
  rw [w64_in (256 * _) (by omega), w64_in _ (by omega)]
  omega
theorem numTo_2 {x1 x2 x3 x4 : UInt8} (l : x1.toNat < 2 ^ 8 ∧ x2.toNat < 2 ^ 8 ∧ x3.toNat < 2 ^ 8 ∧ x4.toNat < 2 ^ 8) : wrap64 (wrap64 (256 * (numTo x1 x2 x3 x4 1 : Int)) + (x3.toNat : Int)) = (numTo x1 x2 x3 x4 2 : Int) := by
  simp only [numTo]
  rw [w64_in (256 * _) (by omega), w64_in _ (by omega)]
  omega
theorem numTo_3 {x1 x2 x3 x4 : UInt8} (l : x1.toNat < 2 ^ 8 ∧ x2.toNat < 2 ^ 8 ∧ x3.toNat < 2 ^ 8 ∧ x4.toNat < 2 ^ 8) : wrap64 (wrap64 (256 * (numTo x1 x2 x3 x4 2 : Int)) + (x2.toNat : Int)) = (numTo x1 x2 x3 x4 3 : Int) := by
  simp only [numTo]
  rw [w64_in (256 * _) (by omega), w64_in _ (by omega)]
  omega
theorem numTo_4 {x1 x2 x3 x4 : UInt8} (l : x1.toNat < 2 ^ 8 ∧ x2.toNat < 2 ^ 8 ∧ x3.toNat < 2 ^ 8 ∧ x4.toNat < 2 ^ 8) : wrap64 (wrap64 (256 * (numTo x1 x2 x3 x4 3 : Int)) + (x1.toNat : Int)) = (numTo x1 x2 x3 x4 4 : Int) := by
  simp only [numTo]
  rw [w64_in (256 * _) (by omega), w64_in _ (by omega)]
  omega

set_option maxHeartbeats 4000000 in
theorem rfirst_any (A : Option Addr) (n cap at_ : Nat) (b : List UInt8) (w : World) (B : Nat) (hB : B ≤ w.heap.size) (hA : Bytes w B A b) (hn : b.length = n) (hl : n ≤ 1099511627776) (hcap : n ≤ cap) (hcm : cap ≤ 9223372036854775807) (hat : at_ ≤ n) :
    Calls Try.prog 23 #[.slice A n cap, .int .i64 at_] w (RFirstPost (b.drop at_) B w) := by
  have Hn := Lib.hid hn
  clear hn
  by_cases h0 : n = at_
  · have Hf : Hid (first (b.drop at_) = ([], 0, 2)) := by
      unfold Hid first
      rw [if_pos (List.drop_eq_nil_of_le (by rw [Hn.out]; omega))]
    subst h0
    have e0 : (n : Int) - (n : Int) = 0 := by omega
    go_enter Try.func23, Try.ntmps23
    go_wp2
    exact bodyPost_ret (v := .agg #[.slice none 0 0, .int .i64 0, .int .i64 2]) (by simp [results, Try.results23, go_sem]) rfl (RFirstPost.no 2 Hf.out rfl (na (nr w) _))
  obtain ⟨bl, off, x, rfl, hbl', hx, hc0⟩ := hA.at_ (k := at_) (by rw [Hn.out]; omega)
  have hbl : bl < w.heap.size := Nat.lt_of_lt_of_le hbl' hB
  have hD0 : b.drop at_ ≠ [] := fun e => by
    have := congrArg List.length e
    rw [List.length_drop, Hn.out] at this; simp at this; omega
  have hx0 : (b.drop at_)[0]? = some x := by rw [List.getElem?_drop]; exact hx
  have hDl : (b.drop at_).length = n - at_ := by rw [List.length_drop, Hn.out]
  have HD := Lib.hid (And.intro hD0 (And.intro hx0 hDl))
  clear hD0 hx0 hDl hx
  have i0 : (0 : Int) ≤ (at_ : Int) := by omega
  have i1 : (at_ : Int) < (n : Int) := by omega
  by_cases h1 : x ≠ 165
  · have hxl : (((x.toNat : Nat) : Int) != 165) = true := by
      rw [bne_iff_ne]
      intro e
      exact h1 (UInt8.toNat_inj.1 (by show x.toNat = 165; omega))
    have Hf : Hid (first (b.drop at_) = ([], 0, 3)) := by
      unfold Hid first
      rw [if_neg HD.out.1, if_pos (by rw [HD.out.2.1]; intro e; injection e with e; exact h1 e)]
    go_enter Try.func23, Try.ntmps23
    go_wp2
    exact bodyPost_ret (v := .agg #[.slice none 0 0, .int .i64 0, .int .i64 3]) (by simp [results, Try.results23, go_sem]) rfl (RFirstPost.no 3 Hf.out rfl (na (nr w) _))
  obtain rfl : x = 165 := Classical.byContradiction h1
  clear h1
  have hc0' : w.cell? ⟨bl, off + at_, none⟩ = some (.int .u8 165) := hc0
  clear hc0
  by_cases h9 : n < at_ + 9
  · have Hf : Hid (first (b.drop at_) = ([], 0, 2)) := by
      unfold Hid first
      rw [if_neg HD.out.1, if_neg (by rw [HD.out.2.1]; simp), if_pos (by rw [HD.out.2.2]; omega)]
    have i9 : (n : Int) - (at_ : Int) < 9 := by omega
    go_enter Try.func23, Try.ntmps23
    go_wp2
    exact bodyPost_ret (v := .agg #[.slice none 0 0, .int .i64 0, .int .i64 2]) (by simp [results, Try.results23, go_sem]) rfl (RFirstPost.no 2 Hf.out rfl (na (nr w) _))
  have i9 : ¬ (n : Int) - (at_ : Int) < 9 := by omega
  have hget : ∀ j, j < n → ∃ y, b[j]? = some y ∧ w.cell? ⟨bl, off + j, none⟩ = some (B8 y) := fun j hj => by
    obtain ⟨bl', off', y, e, _, hy, hc⟩ := hA.at_ (k := j) (by rw [Hn.out]; omega)
    injection e with e
    injection e with e1 e2
    subst e1 e2
    exact ⟨y, hy, hc⟩
  obtain ⟨x1, g1, c1⟩ := hget (at_ + 1) (by omega)
  obtain ⟨x2, g2, c2⟩ := hget (at_ + 2) (by omega)
  obtain ⟨x3, g3, c3⟩ := hget (at_ + 3) (by omega)
  obtain ⟨x4, g4, c4⟩ := hget (at_ + 4) (by omega)
  clear hget
  have l1 := x1.toNat_lt; have l2 := x2.toNat_lt; have l3 := x3.toNat_lt; have l4 := x4.toNat_lt
  have hnum : num4 ((b.drop at_).drop 1) = numTo x1 x2 x3 x4 4 := by
    obtain ⟨y0, y1, y2, y3, e0, e1, e2, e3, e⟩ := four_get (l := (b.drop at_).drop 1) (by rw [List.length_drop, HD.out.2.2]; omega)
    rw [List.drop_drop, List.getElem?_drop] at e0 e1 e2 e3
    rw [show at_ + 1 + 0 = at_ + 1 by omega, g1] at e0
    rw [show at_ + 1 + 1 = at_ + 2 by omega, g2] at e1
    rw [show at_ + 1 + 2 = at_ + 3 by omega, g3] at e2
    rw [show at_ + 1 + 3 = at_ + 4 by omega, g4] at e3
    injection e0 with e0; injection e1 with e1; injection e2 with e2; injection e3 with e3
    subst e0 e1 e2 e3
    rw [e]
    show _ = 16777216 * x4.toNat + 65536 * x3.toNat + 256 * x2.toNat + x1.toNat
    omega
  have Hnum := Lib.hid hnum
  clear hnum g1 g2 g3 g4
  go_enter Try.func23, Try.ntmps23
  go_wp2
  go_loop [6, 7] (fun nn ii => ∃ j : Nat, j ≤ 4 ∧ ii = .int .i64 ((4 - j : Nat) : Int) ∧ nn = .int .i64 (numTo x1 x2 x3 x4 j : Int)) (fun _ ii => (intOf ii).toNat)
  case atStart => exact ⟨0, by omega, rfl, rfl⟩
  case round =>
    obtain ⟨j, hj, rfl, rfl⟩ := hrel
    match j, hj with
    | 0, _ =>
      go_wp2_with fail
      exact ⟨⟨1, by omega, rfl, congrArg (Value.int .i64) (numTo_1 ⟨l1, l2, l3, l4⟩)⟩, (by omega : (3 : Nat) < 4)⟩
    | 1, _ =>
      go_wp2_with fail
      exact ⟨⟨2, by omega, rfl, congrArg (Value.int .i64) (numTo_2 ⟨l1, l2, l3, l4⟩)⟩, (by omega : (2 : Nat) < 3)⟩
    | 2, _ =>
      go_wp2_with fail
      exact ⟨⟨3, by omega, rfl, congrArg (Value.int .i64) (numTo_3 ⟨l1, l2, l3, l4⟩)⟩, (by omega : (1 : Nat) < 2)⟩
    | 3, _ =>
      go_wp2_with fail
      exact ⟨⟨4, by omega, rfl, congrArg (Value.int .i64) (numTo_4 ⟨l1, l2, l3, l4⟩)⟩, (by omega : (0 : Nat) < 1)⟩
    | 4, _ =>
      clear c1 c2 c3 c4
      have hD : (b.drop at_).drop 1 = (b.drop at_).drop 1 := rfl
      clear hD
      have Hfirst := Lib.hid (show first (b.drop at_) = if 65536 < numTo x1 x2 x3 x4 4 then ([], 0, 4) else if n - at_ < 9 + numTo x1 x2 x3 x4 4 then ([], 0, 2)
          else if Crc.more 0 (nums ((b.drop at_).take 5 ++ ((b.drop at_).drop 9).take (numTo x1 x2 x3 x4 4))) ≠ num4 ((b.drop at_).drop 5) then ([], 0, 5) else (((b.drop at_).drop 9).take (numTo x1 x2 x3 x4 4), 9 + numTo x1 x2 x3 x4 4, 0) by
        unfold first
        rw [if_neg HD.out.1, if_neg (by rw [HD.out.2.1]; simp), if_neg (by rw [HD.out.2.2]; omega), HD.out.2.2, Hnum.out])
      generalize numTo x1 x2 x3 x4 4 = N at *
      by_cases h65 : 65536 < N
      · rw [if_pos h65] at Hfirst
        go_wp2_with fail
        exact bodyPost_ret (v := .agg #[.slice none 0 0, .int .i64 0, .int .i64 4]) (by simp [results, Try.results23, go_sem]) rfl (RFirstPost.no 4 Hfirst.out rfl (na (nr w) _))
      rw [if_neg h65] at Hfirst
      by_cases hsh : n - at_ < 9 + N
      · rw [if_pos hsh] at Hfirst
        have hsh' : (n : Int) - (at_ : Int) < 9 + (N : Int) := by omega
        go_wp2_with fail
        exact bodyPost_ret (v := .agg #[.slice none 0 0, .int .i64 0, .int .i64 2]) (by simp [results, Try.results23, go_sem]) rfl (RFirstPost.no 2 Hfirst.out rfl (na (nr w) _))
      rw [if_neg hsh] at Hfirst
      have hsh' : ¬ (n : Int) - (at_ : Int) < 9 + (N : Int) := by omega
      have HT := Lib.hid (show Bytes w B (some ⟨bl, off + at_, none⟩) ((b.drop at_).take (9 + N)) ∧ ((b.drop at_).take (9 + N)).length = 9 + N from ⟨(hA.drop_ at_).take _, by rw [List.length_take, HD.out.2.2]; omega⟩)
      have Hsays := Lib.hid (first_says (b.drop at_) N HD.out.2.1 (by rw [HD.out.2.2]; omega) Hnum.out)
      have hPl : (((b.drop at_).drop 9).take N).length = N := by rw [List.length_take, List.length_drop, HD.out.2.2]; omega
      have k1 : (at_ : Int) + 9 + (N : Int) ≤ (cap : Int) := by omega
      have k3 : (at_ : Int) + 9 ≤ (at_ : Int) + 9 + (N : Int) := by omega
      have k4 : ((at_ : Int) + 9).toNat = at_ + 9 := by omega
      have k5 : ((at_ : Int) + 9 + (N : Int)).toNat = at_ + 9 + N := by omega
      by_cases hc9 : cap = at_ + 9
      · subst hc9
        obtain rfl : N = 0 := by omega
        obtain rfl : n = at_ + 9 := by omega
        have HP := Lib.hid (show Bytes w B (some ⟨bl, off, none⟩) (((b.drop at_).drop 9).take 0) ∧ (((b.drop at_).drop 9).take 0).length = 0 from ⟨by rw [List.take_zero]; exact Bytes.nil_ _, hPl⟩)
        clear hPl
        go_wp2_with fail
        refine (rwrap_any _ 0 _ (((b.drop at_).drop 9).take 0) _ ((HP.out.1.below ((na (nr w) _).mono hB)).more (Nat.le_trans hB (na (nr w) _).size)) HP.out.2 (by omega)).mono ?_
        rintro e w1 ⟨A', c, rfl, hbw, hb1⟩
        rw [HP.out.2]
        go_wp2_with fail
        have r1 := run_str w1.drew _ A' (9 + 0) c (wrap (((b.drop at_).drop 9).take 0)) (hbw.below (nd (nr _))) (by rw [wrap_length, HP.out.2])
        have r2 := run_str w1.drew _ (some ⟨bl, off + at_, none⟩) 9 9 ((b.drop at_).take (9 + 0)) (HT.out.1.below ((nd (nt (na (nr w) _) hb1)).mono hB)) HT.out.2
        have hz : ∀ k v, (#[Value.slice none 0 0, .int .i64 0, .int .i64 0] : Array Value)[k]? = some v → w1.cell? ⟨w.heap.size, k, none⟩ = some v ∧ w1.frozen? ⟨w.heap.size, k, none⟩ = false := fun k v hv =>
          ⟨(hb1.cell (p := ⟨w.heap.size, k, none⟩) (by simp)).trans ((cell_of_row _ _ _ _ _ _ (heap_alloc_new w _)).trans hv), (hb1.frozen (p := ⟨w.heap.size, k, none⟩) (by simp)).trans (World.frozen?_alloc_new w _ _ k)⟩
        obtain ⟨z0, f0⟩ := hz 0 _ rfl
        obtain ⟨z1, f1⟩ := hz 1 _ rfl
        obtain ⟨z2, f2⟩ := hz 2 _ rfl
        clear hz
        have hwl : wrap (((b.drop at_).drop 9).take 0) = wrap (((b.drop at_).drop 9).take 0) := rfl
        generalize wrap (((b.drop at_).drop 9).take 0) = X at *
        clear hwl
        generalize (b.drop at_).take (9 + 0) = T at *
        have hcur := nd (nt (na (nr w) _) hb1)
        by_cases hE : X = T
        · subst hE
          go_region
          go_wp2_with fail
          exact bodyPost_ret (v := .agg #[.slice (some ⟨bl, off, none⟩) 0 0, .int .i64 9, .int .i64 0]) (by simp [results, Try.results23, go_sem, z0, z1, z2]) rfl (RFirstPost.yes HP.out.2 (Hfirst.out.trans (if_neg (fun h => h (Hsays.out.1 trivial)))) rfl HP.out.1 hB (((hcur.setCell (Nat.le_refl _) _).setCell (Nat.le_refl _) _).setCell (Nat.le_refl _) _))
        · have hne : (X == T) = false := by rw [beq_eq_false_iff_ne]; exact hE
          go_region
          go_wp2_with fail
          exact bodyPost_ret (v := .agg #[.slice none 0 0, .int .i64 0, .int .i64 5]) (by simp [results, Try.results23, go_sem, z0, z1, z2]) rfl (RFirstPost.no 5 (Hfirst.out.trans (if_pos (fun h => hE (Hsays.out.2 h)))) rfl (((hcur.setCell (Nat.le_refl _) _).setCell (Nat.le_refl _) _).setCell (Nat.le_refl _) _))
      · have HP := Lib.hid (show Bytes w B (some ⟨bl, off + (at_ + 9), none⟩) (((b.drop at_).drop 9).take N) ∧ (((b.drop at_).drop 9).take N).length = N from ⟨by rw [← Nat.add_assoc]; exact ((hA.drop_ at_).drop_ 9).take _, hPl⟩)
        clear hPl
        go_wp2_with fail
        refine (rwrap_any _ N _ (((b.drop at_).drop 9).take N) _ ((HP.out.1.below ((na (nr w) _).mono hB)).more (Nat.le_trans hB (na (nr w) _).size)) HP.out.2 (by omega)).mono ?_
        rintro e w1 ⟨A', c, rfl, hbw, hb1⟩
        rw [HP.out.2]
        go_wp2_with fail
        have r1 := run_str w1.drew _ A' (9 + N) c (wrap (((b.drop at_).drop 9).take N)) (hbw.below (nd (nr _))) (by rw [wrap_length, HP.out.2])
        have r2 := run_str w1.drew _ (some ⟨bl, off + at_, none⟩) (at_ + 9 + N - at_) (cap - at_) ((b.drop at_).take (9 + N)) (HT.out.1.below ((nd (nt (na (nr w) _) hb1)).mono hB)) (by rw [HT.out.2]; omega)
        have hz : ∀ k v, (#[Value.slice none 0 0, .int .i64 0, .int .i64 0] : Array Value)[k]? = some v → w1.cell? ⟨w.heap.size, k, none⟩ = some v ∧ w1.frozen? ⟨w.heap.size, k, none⟩ = false := fun k v hv =>
          ⟨(hb1.cell (p := ⟨w.heap.size, k, none⟩) (by simp)).trans ((cell_of_row _ _ _ _ _ _ (heap_alloc_new w _)).trans hv), (hb1.frozen (p := ⟨w.heap.size, k, none⟩) (by simp)).trans (World.frozen?_alloc_new w _ _ k)⟩
        obtain ⟨z0, f0⟩ := hz 0 _ rfl
        obtain ⟨z1, f1⟩ := hz 1 _ rfl
        obtain ⟨z2, f2⟩ := hz 2 _ rfl
        clear hz
        have hwl : wrap (((b.drop at_).drop 9).take N) = wrap (((b.drop at_).drop 9).take N) := rfl
        generalize wrap (((b.drop at_).drop 9).take N) = X at *
        clear hwl
        generalize (b.drop at_).take (9 + N) = T at *
        have hcur := nd (nt (na (nr w) _) hb1)
        by_cases hE : X = T
        · subst hE
          go_region
          go_wp2_with fail
          exact bodyPost_ret (v := .agg #[.slice (some ⟨bl, off + (at_ + 9), none⟩) N (cap - (at_ + 9)), .int .i64 (9 + (N : Int)), .int .i64 0]) (by simp [results, Try.results23, go_sem, z0, z1, z2]) rfl (RFirstPost.yes HP.out.2 (Hfirst.out.trans (if_neg (fun h => h (Hsays.out.1 trivial)))) rfl HP.out.1 hB (((hcur.setCell (Nat.le_refl _) _).setCell (Nat.le_refl _) _).setCell (Nat.le_refl _) _))
        · have hne : (X == T) = false := by rw [beq_eq_false_iff_ne]; exact hE
          go_region
          go_wp2_with fail
          exact bodyPost_ret (v := .agg #[.slice none 0 0, .int .i64 0, .int .i64 5]) (by simp [results, Try.results23, go_sem, z0, z1, z2]) rfl (RFirstPost.no 5 (Hfirst.out.trans (if_pos (fun h => hE (Hsays.out.2 h)))) rfl (((hcur.setCell (Nat.le_refl _) _).setCell (Nat.le_refl _) _).setCell (Nat.le_refl _) _))
end Go.Proofs.Ytlepallialmceaa
