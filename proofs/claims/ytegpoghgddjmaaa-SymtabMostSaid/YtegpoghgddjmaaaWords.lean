/- A slice of the law's words: opened as the row's proof has it, and read by the walk. -/
import Derived.Test.YtegpoghgddjmaaaMemB
import Derived.Deep.Slices
import Derived.ProofKit
namespace Go.Proofs.Ytegpoghgddjmaaa
open Go.RowKit Go.ChangeShapes Go.WideShapes
set_option maxRecDepth 100000

/-- One word: its kind, N, V, S. -/
structure Wd where
  kind : Int
  n : Int
  v : Nat
  s : List UInt8
instance : Inhabited Wd := ⟨⟨0, 0, 0, []⟩⟩
def Wd.ok (x : Wd) : Prop := (-9223372036854775808 ≤ x.kind ∧ x.kind ≤ 9223372036854775807) ∧ (-9223372036854775808 ≤ x.n ∧ x.n ≤ 9223372036854775807) ∧ x.v < 18446744073709551616 ∧ x.s.length ≤ 9223372036854775807
/-- The slice at A reads as the words L, below block B. -/
def Words (w : World) (B : Nat) (A : Option Addr) (L : List Wd) : Prop :=
  0 < L.length → ∃ b off, A = some ⟨b, off, none⟩ ∧ b < B ∧ ∀ j x, L[j]? = some x → (w.cell? ⟨b, off + j * 4, none⟩ = some (.int .i64 x.kind) ∧ w.cell? ⟨b, off + j * 4 + 1, none⟩ = some (.int .i64 x.n) ∧ w.cell? ⟨b, off + j * 4 + 2, none⟩ = some (.int .u64 x.v) ∧ w.cell? ⟨b, off + j * 4 + 3, none⟩ = some (S8 x.s)) ∧ x.ok
theorem Words.below {w w' : World} {B B' : Nat} {A : Option Addr} {L : List Wd} (h : Words w B A L) (hb : Below B w w') (hB : B ≤ B') : Words w' B' A L := fun hn => by
  obtain ⟨b, off, e, h1, h2⟩ := h hn
  refine ⟨b, off, e, by omega, fun j x hx => ?_⟩
  obtain ⟨⟨k0, k1, k2, k3⟩, hok⟩ := h2 j x hx
  exact ⟨⟨(hb.cell (p := ⟨b, _, none⟩) h1).trans k0, (hb.cell (p := ⟨b, _, none⟩) h1).trans k1, (hb.cell (p := ⟨b, _, none⟩) h1).trans k2, (hb.cell (p := ⟨b, _, none⟩) h1).trans k3⟩, hok⟩
theorem Words.at_ {w : World} {B : Nat} {A : Option Addr} {L : List Wd} {k : Nat} (h : Words w B A L) (hk : k < L.length) : ∃ b off x, A = some ⟨b, off, none⟩ ∧ b < B ∧ L[k]? = some x ∧ (w.cell? ⟨b, off + k * 4, none⟩ = some (.int .i64 x.kind) ∧ w.cell? ⟨b, off + k * 4 + 1, none⟩ = some (.int .i64 x.n) ∧ w.cell? ⟨b, off + k * 4 + 2, none⟩ = some (.int .u64 x.v) ∧ w.cell? ⟨b, off + k * 4 + 3, none⟩ = some (S8 x.s)) ∧ x.ok := by
  obtain ⟨b, off, e, hb, hc⟩ := h (by omega)
  exact ⟨b, off, L[k], e, hb, List.getElem?_eq_getElem hk, (hc k _ (List.getElem?_eq_getElem hk)).1, (hc k _ (List.getElem?_eq_getElem hk)).2⟩

theorem cellsWord : Try.prog.cellsOf 33 = 4 := by kernel_rfl
theorem cellsInt : Try.prog.cellsOf 3 = 1 := by kernel_rfl
theorem cellsU64 : Try.prog.cellsOf 22 = 1 := by kernel_rfl
theorem cellsStr : Try.prog.cellsOf 9 = 1 := by kernel_rfl

theorem open_words {H : Type} {enc : TypeId × Value → H} {W : World} {spare : Nat → Bool} {held : Bool} {fuel : Nat} {a0 : Option Addr} {len0 cap0 : Nat} {x : DataW H × List MemPlace}
    (h : DataW.trod enc Try.prog W 0 spare held fuel 27 [.slice a0 len0 cap0] = some x) :
    ∃ L : List Wd, L.length = len0 ∧ Words W W.heap.size a0 L ∧ len0 ≤ cap0 ∧ cap0 ≤ 9223372036854775807 ∧ (a0 = none → cap0 = 0) := by
  rcases Deep.open_slice Try.underlying27 h with ⟨h0, _⟩ | ⟨a, len, cap, m, n, D, Pl, h0, _, hl, hm, hmm, _, hx⟩
  · injection h0 with h0 _
    injection h0 with e1 e2 e3
    subst e1 e2 e3
    exact ⟨[], rfl, fun h => absurd h (by simp), Nat.le_refl _, by decide, fun _ => rfl⟩
  · injection h0 with h0 _
    injection h0 with e1 e2 e3
    subst e1 e2 e3
    have hlm : len0 ≤ m := by rw [hmm]; split <;> omega
    have each : ∀ i, i < len0 → ∃ q : Wd, W.cell? (a.add (i * 4)) = some (.int .i64 q.kind) ∧ W.cell? (a.add (i * 4 + 1)) = some (.int .i64 q.n) ∧ W.cell? (a.add (i * 4 + 2)) = some (.int .u64 q.v) ∧ W.cell? (a.add (i * 4 + 3)) = some (S8 q.s) ∧ q.ok := by
      intro i hi
      obtain ⟨cs', h1, h2⟩ := hx i (by omega)
      rw [cellsWord] at h1
      obtain ⟨_, hlen, hcell⟩ := World.cells?_some h1
      obtain ⟨xs, k, hk, hxy, _, hxl, hf⟩ := DataW.trod_struct Try.underlying33 h2
      match xs, hxl, cs', hlen with
      | [y0, y1, y2, y3], _, [v0, v1, v2, v3], _ =>
        have g0 := hf 0 _ rfl
        have g1 := hf 1 _ rfl
        have g2 := hf 2 _ rfl
        have g3 := hf 3 _ rfl
        simp [cellsInt, cellsU64, cellsStr] at g0 g1 g2 g3
        have e0 := hcell 0 (by omega)
        have e1 := hcell 1 (by omega)
        have e2 := hcell 2 (by omega)
        have e3 := hcell 3 (by omega)
        rw [Deep.add_add] at e0 e1 e2 e3
        obtain ⟨z0, c0, _, w0⟩ := DataW.trod_int Try.underlying3 g0
        obtain ⟨z1, c1, _, w1⟩ := DataW.trod_int Try.underlying3 g1
        obtain ⟨z2, c2, _, w2⟩ := DataW.trod_int Try.underlying22 g2
        obtain ⟨z3, c3, _, w3⟩ := DataW.trod_string Try.underlying9 g3
        injection c0 with c0 _
        injection c1 with c1 _
        injection c2 with c2 _
        injection c3 with c3 _
        subst c0 c1 c2 c3
        obtain ⟨zn, rfl, hzn⟩ := nat_of_u64 w2
        exact ⟨⟨z0, z1, zn, z3.data.toList⟩, by simpa using e0, by simpa using e1, by simpa using e2, by simpa using e3, int_of_i64 w0, int_of_i64 w1, hzn, by show z3.data.toList.length ≤ 9223372036854775807; rw [Array.length_toList]; exact w3⟩
    obtain ⟨q, hq⟩ := Deep.choose_lt each
    refine ⟨(List.range len0).map q, by simp, fun hp => ?_, hl, by unfold maxLen at hm; omega, fun h => by cases h⟩
    have hp' : 0 < len0 := by simpa using hp
    obtain ⟨b, off, sp⟩ := a
    have h0 := (hq 0 hp').1
    have hsp : sp = none := by
      cases sp with
      | none => rfl
      | some n => 
        unfold World.cell? at h0
        simp [Addr.add] at h0
        split at h0 <;> simp at h0
    subst hsp
    refine ⟨b, off, rfl, block_lt_of_cell h0, fun j y hy => ?_⟩
    have hj : j < len0 := by
      rcases Nat.lt_or_ge j len0 with h | h
      · exact h
      · rw [List.getElem?_eq_none (by simpa using h)] at hy; cases hy
    have ey : q j = y := by simpa [hj] using hy
    obtain ⟨k0, k1, k2, k3, hok⟩ := hq j hj
    rw [ey] at k0 k1 k2 k3 hok
    have he : ∀ i, (⟨b, off, none⟩ : Addr).add i = ⟨b, off + i, none⟩ := fun i => by unfold Addr.add; split <;> simp_all
    rw [he] at k0 k1 k2 k3
    exact ⟨⟨k0, k1, k2, k3⟩, hok⟩
end Go.Proofs.Ytegpoghgddjmaaa
