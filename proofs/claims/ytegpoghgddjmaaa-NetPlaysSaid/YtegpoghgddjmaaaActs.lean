/- A slice of the law's acts: opened as the row's proof has it. -/
import Derived.Test.YtegpoghgddjmaaaMsg
import Derived.Test.YtegpoghgddjmaaaNet2
namespace Go.Proofs.Ytegpoghgddjmaaa
open Go.RowKit Go.ChangeShapes Go.WideShapes
set_option maxRecDepth 100000

/-- One act: its kind, I, K, its message. -/
structure Ac where
  kind : Int
  i : Int
  k : Int
  m : Ms
instance : Inhabited Ac := ⟨⟨0, 0, 0, ⟨false, 0, none, 0, 0, []⟩⟩⟩
def Ac.ok (w : World) (B : Nat) (x : Ac) : Prop := ((-9223372036854775808 ≤ x.kind ∧ x.kind ≤ 9223372036854775807) ∧ (-9223372036854775808 ≤ x.i ∧ x.i ≤ 9223372036854775807) ∧ (-9223372036854775808 ≤ x.k ∧ x.k ≤ 9223372036854775807)) ∧ Bytes w B x.m.A x.m.l ∧ x.m.l.length = x.m.n ∧ (x.m.A = none → x.m.c = 0) ∧ x.m.n ≤ 9223372036854775807
def Ac.at_ (w : World) (b o : Nat) (x : Ac) : Prop := w.cell? ⟨b, o, none⟩ = some (.int .i64 x.kind) ∧ w.cell? ⟨b, o + 1, none⟩ = some (.int .i64 x.i) ∧ w.cell? ⟨b, o + 2, none⟩ = some (.int .i64 x.k) ∧ w.cell? ⟨b, o + 3, none⟩ = some (.bool x.m.a) ∧ w.cell? ⟨b, o + 4, none⟩ = some (.int .i64 x.m.h) ∧ w.cell? ⟨b, o + 5, none⟩ = some (.slice x.m.A x.m.n x.m.c)
/-- The slice at A reads as the acts L, below block B. -/
def Acts (w : World) (B : Nat) (A : Option Addr) (L : List Ac) : Prop :=
  0 < L.length → ∃ b off, A = some ⟨b, off, none⟩ ∧ b < B ∧ ∀ (j : Nat) (x : Ac), L[j]? = some x → x.at_ w b (off + j * 6) ∧ x.ok w B
theorem Ac.ok.below {w w' : World} {B : Nat} {x : Ac} (h : x.ok w B) (hb : Below B w w') : x.ok w' B := ⟨h.1, h.2.1.below hb, h.2.2⟩
theorem Acts.below {w w' : World} {B : Nat} {A : Option Addr} {L : List Ac} (h : Acts w B A L) (hb : Below B w w') : Acts w' B A L := fun hn => by
  obtain ⟨b, off, e, h1, h2⟩ := h hn
  refine ⟨b, off, e, h1, fun j x hx => ?_⟩
  obtain ⟨⟨k0, k1, k2, k3, k4, k5⟩, hok⟩ := h2 j x hx
  exact ⟨⟨(hb.cell (p := ⟨b, _, none⟩) h1).trans k0, (hb.cell (p := ⟨b, _, none⟩) h1).trans k1, (hb.cell (p := ⟨b, _, none⟩) h1).trans k2, (hb.cell (p := ⟨b, _, none⟩) h1).trans k3, (hb.cell (p := ⟨b, _, none⟩) h1).trans k4, (hb.cell (p := ⟨b, _, none⟩) h1).trans k5⟩, hok.below hb⟩
theorem Acts.get {w : World} {B : Nat} {A : Option Addr} {L : List Ac} {k : Nat} (h : Acts w B A L) (hk : k < L.length) : ∃ b off x, A = some ⟨b, off, none⟩ ∧ b < B ∧ L[k]? = some x ∧ x.at_ w b (off + k * 6) ∧ x.ok w B := by
  obtain ⟨b, off, e, hb, hc⟩ := h (by omega)
  exact ⟨b, off, L[k], e, hb, List.getElem?_eq_getElem hk, hc k _ (List.getElem?_eq_getElem hk)⟩
theorem cellsAct : Try.prog.cellsOf 62 = 6 := by kernel_rfl
theorem open_acts {H : Type} {enc : TypeId × Value → H} {W : World} {held : Bool} {fuel : Nat} {a0 : Option Addr} {len0 cap0 : Nat} {x : DataW H × List MemPlace}
    (h : DataW.trod enc Try.prog W 0 (fun _ => true) held fuel 59 [.slice a0 len0 cap0] = some x) :
    ∃ L : List Ac, L.length = len0 ∧ Acts W W.heap.size a0 L ∧ len0 ≤ cap0 ∧ cap0 ≤ 9223372036854775807 ∧ (a0 = none → cap0 = 0) := by
  rcases Deep.open_slice Try.underlying59 h with ⟨h0, _⟩ | ⟨a, len, cap, m, n, D, Pl, h0, _, hl, hm, hmm, _, hx⟩
  · injection h0 with h0 _
    injection h0 with e1 e2 e3
    subst e1 e2 e3
    exact ⟨[], rfl, fun h => absurd h (by simp), Nat.le_refl _, by decide, fun _ => rfl⟩
  · injection h0 with h0 _
    injection h0 with e1 e2 e3
    subst e1 e2 e3
    have hlm : len0 ≤ m := by rw [hmm]; split <;> omega
    have each : ∀ i, i < len0 → ∃ q : Ac, W.cell? (a.add (i * 6)) = some (.int .i64 q.kind) ∧ W.cell? (a.add (i * 6 + 1)) = some (.int .i64 q.i) ∧ W.cell? (a.add (i * 6 + 2)) = some (.int .i64 q.k) ∧ W.cell? (a.add (i * 6 + 3)) = some (.bool q.m.a) ∧ W.cell? (a.add (i * 6 + 4)) = some (.int .i64 q.m.h) ∧ W.cell? (a.add (i * 6 + 5)) = some (.slice q.m.A q.m.n q.m.c) ∧ q.ok W W.heap.size := by
      intro i hi
      obtain ⟨cs', h1, h2⟩ := hx i (by omega)
      rw [cellsAct] at h1
      obtain ⟨_, hlen, hcell⟩ := World.cells?_some h1
      obtain ⟨xs, k, hk, hxy, _, hxl, hf⟩ := DataW.trod_struct Try.underlying62 h2
      match xs, hxl, cs', hlen with
      | [y0, y1, y2, y3], _, [v0, v1, v2, v3, v4, v5], _ =>
        have g0 := hf 0 _ rfl
        have g1 := hf 1 _ rfl
        have g2 := hf 2 _ rfl
        have g3 := hf 3 _ rfl
        simp [cellsInt, cellsMsg] at g0 g1 g2 g3
        have e0 := hcell 0 (by omega)
        have e1 := hcell 1 (by omega)
        have e2 := hcell 2 (by omega)
        have e3 := hcell 3 (by omega)
        have e4 := hcell 4 (by omega)
        have e5 := hcell 5 (by omega)
        rw [Deep.add_add] at e0 e1 e2 e3 e4 e5
        obtain ⟨z0, c0, _, w0⟩ := DataW.trod_int Try.underlying3 g0
        obtain ⟨z1, c1, _, w1⟩ := DataW.trod_int Try.underlying3 g1
        obtain ⟨z2, c2, _, w2⟩ := DataW.trod_int Try.underlying3 g2
        obtain ⟨ma, mh, mA, mn, mc, ml, c3, _, hml, hby, hcn, hc1, hc2⟩ := open_msg g3 rfl
        injection c0 with c0 _
        injection c1 with c1 _
        injection c2 with c2 _
        injection c3 with c3 c4
        injection c4 with c4 c5
        injection c5 with c5 _
        subst c0 c1 c2 c3 c4 c5
        exact ⟨⟨z0, z1, z2, ⟨ma, mh, mA, mn, mc, ml⟩⟩, by simpa using e0, by simpa using e1, by simpa using e2, by simpa using e3, by simpa using e4, by simpa using e5, ⟨int_of_i64 w0, int_of_i64 w1, int_of_i64 w2⟩, hby, hml, hcn, Nat.le_trans hc1 hc2⟩
    obtain ⟨q, hq⟩ := Deep.choose_lt each
    refine ⟨(List.range len0).map q, by simp, fun hp => ?_, hl, by unfold maxLen at hm; omega, fun h => by cases h⟩
    have hp' : 0 < len0 := by simpa using hp
    obtain ⟨b, off, sp⟩ := a
    have h0 := (hq 0 hp').1
    have hsp : sp = none := by
      cases sp with
      | none => rfl
      | some n => 
        unfold World.cell? at h0
        simp [Addr.add] at h0
        split at h0 <;> simp at h0
    subst hsp
    refine ⟨b, off, rfl, block_lt_of_cell h0, fun j y hy => ?_⟩
    have hj : j < len0 := by
      rcases Nat.lt_or_ge j len0 with h | h
      · exact h
      · rw [List.getElem?_eq_none (by simpa using h)] at hy; cases hy
    have ey : q j = y := by simpa [hj] using hy
    obtain ⟨k0, k1, k2, k3, k4, k5, hok⟩ := hq j hj
    rw [ey] at k0 k1 k2 k3 k4 k5 hok
    have he : ∀ i, (⟨b, off, none⟩ : Addr).add i = ⟨b, off + i, none⟩ := fun i => by unfold Addr.add; split <;> simp_all
    rw [he] at k0 k1 k2 k3 k4 k5
    exact ⟨⟨k0, k1, k2, k3, k4, k5⟩, hok⟩
end Go.Proofs.Ytegpoghgddjmaaa
