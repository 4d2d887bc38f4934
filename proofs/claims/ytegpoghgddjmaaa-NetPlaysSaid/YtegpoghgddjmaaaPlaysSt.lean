/- The state of the law NetPlays: the net, the law's own list of messages, the law's locals, side by side. -/
import Derived.Test.YtegpoghgddjmaaaAwake23
import Derived.Test.YtegpoghgddjmaaaNetRef
import Derived.Test.YtegpoghgddjmaaaNetRef4
import Derived.Test.YtegpoghgddjmaaaNetTurn
import Derived.Test.YtegpoghgddjmaaaNetCount
import Derived.Test.YtegpoghgddjmaaaNetSend2
import Derived.Test.YtegpoghgddjmaaaActs
namespace Go.Proofs.Ytegpoghgddjmaaa
open Go.RowKit
set_option maxRecDepth 100000

/-- Where a message's data lies. -/
def Ms.off (m : Ms) (p : Nat) : Prop := 0 < m.l.length → ∀ b o, m.A = some ⟨b, o, none⟩ → b ≠ p
/-- Block p is none of the net's, nor the list's. -/
structure Avoid (g : Nat) (v vm : Value) (M : List Ms) (p : Nat) : Prop where
  g : p ≠ g
  v : v.ownBlock ≠ some p
  vm : vm.ownBlock ≠ some p
  d : ∀ m ∈ M, m.off p
structure NS (w wr : World) (g : Nat) (v vm : Value) (M Mm : List Ms) (ps : List Nat) : Prop where
  N : OwnN wr g v M
  R : wr.ownsRow w.heap.size 54 3 vm Mm.length (rowM Mm)
  D : ∀ x ∈ Mm, Bytes w w.heap.size x.A x.l ∧ x.l.length = x.n ∧ (x.A = none → x.c = 0) ∧ x.n ≤ 300
  vg : vm.ownBlock ≠ some g
  vv : ∀ q, vm.ownBlock = some q → v.ownBlock ≠ some q
  far : ∀ m ∈ M, ∀ q, vm.ownBlock = some q → m.off q
  b : Below w.heap.size w wr
  gw : w.heap.size ≤ g
  loc : ∀ p ∈ ps, w.heap.size ≤ p ∧ p < wr.heap.size ∧ Avoid g v vm M p
variable {w wr w' : World} {g : Nat} {v v' vm vm' : Value} {M M' Mm Mm' : List Ms} {ps : List Nat}
theorem data_lt (h : OwnN wr g v M) {m : Ms} (hm : m ∈ M) (hp : 0 < m.l.length) {b o : Nat} (e : m.A = some ⟨b, o, none⟩) : b < wr.heap.size := by
  obtain ⟨b', o', e2, hb, _⟩ := (h.data m hm).1 hp
  rw [e] at e2
  injection e2 with e2
  injection e2 with e2 _
  omega
theorem NS.avoid (h : NS w wr g v vm M Mm ps) {q : Nat} (hq : wr.heap.size ≤ q) : Avoid g v vm M q :=
  ⟨fun e => by have := h.N.lt; omega, fun e => by have := (World.ownsRow.lt h.N.row q e).2; omega, fun e => by have := (World.ownsRow.lt h.R q e).2; omega, fun m hm hp b o e => by have := data_lt h.N hm hp e; omega⟩
theorem NS.new_ (h : NS w wr g v vm M Mm ps) (hb : Below wr.heap.size wr w') : NS w w' g v vm M Mm ps :=
  ⟨h.N.new_ hb, ownsRow_new h.R hb, h.D, h.vg, h.vv, h.far, h.b.trans (hb.mono h.b.size), h.gw, fun p hp => ⟨(h.loc p hp).1, Nat.lt_of_lt_of_le (h.loc p hp).2.1 hb.size, (h.loc p hp).2.2⟩⟩
theorem NS.more (h : NS w wr g v vm M Mm ps) {q : Nat} (hw : w.heap.size ≤ q) (hs : q < wr.heap.size) (ha : Avoid g v vm M q) : NS w wr g v vm M Mm (q :: ps) :=
  ⟨h.N, h.R, h.D, h.vg, h.vv, h.far, h.b, h.gw, fun p hp => by
    rcases List.mem_cons.1 hp with rfl | hp
    · exact ⟨hw, hs, ha⟩
    · exact h.loc p hp⟩
theorem NS.less (h : NS w wr g v vm M Mm ps) {qs : List Nat} (hs : ∀ p ∈ qs, p ∈ ps) : NS w wr g v vm M Mm qs :=
  ⟨h.N, h.R, h.D, h.vg, h.vv, h.far, h.b, h.gw, fun p hp => h.loc p (hs p hp)⟩
theorem NS.made (h : NS w wr g v vm M Mm ps) (o : Obj) : NS w (wr.alloc o) g v vm M Mm (wr.heap.size :: ps) :=
  (h.new_ (na (nr wr) o)).more h.b.size (by simp) (h.avoid (Nat.le_refl _))
theorem ownN_set {p j : Nat} {u : Value} (h : OwnN wr g v M) (hg : p ≠ g) (hv : v.ownBlock ≠ some p) (hd : ∀ m ∈ M, m.off p) : OwnN (wr.setCell ⟨p, j, none⟩ u) g v M := by
  have hb : ∀ k, k ≠ p → (wr.setCell ⟨p, j, none⟩ u).heap[k]? = wr.heap[k]? := fun k hk => Below.heap_setCell _ _ _ _ (show k ≠ p from hk)
  have hsz : (wr.setCell ⟨p, j, none⟩ u).heap.size = wr.heap.size := by simp [World.setCell]
  refine ⟨cell_keep (hb g (fun e => hg e.symm)) h.c, frozen_keep (hb g (fun e => hg e.symm)) h.f, by rw [hsz]; exact h.lt, ?_, fun x hx => ⟨(h.data x hx).1.other (fun hp' b o e _ => hb b (hd x hx hp' b o e)) (by rw [hsz]; exact Nat.le_refl _), (h.data x hx).2⟩, h.far⟩
  obtain ⟨h1, h2⟩ := h.row
  refine ⟨h1, ?_⟩
  rcases h2 with h2 | ⟨q, cap, cur, rfl, hbg, hg, r⟩
  · exact .inl h2
  · exact .inr ⟨q, cap, cur, rfl, hbg, (hb q (fun e => hv (by rw [e]; rfl))).trans hg, r⟩
theorem row_set_other {b e z n p j : Nat} {u : Value} {xs : List Value} (h : wr.ownsRow b e z vm n xs) (hv : vm.ownBlock ≠ some p) : (wr.setCell ⟨p, j, none⟩ u).ownsRow b e z vm n xs := by
  obtain ⟨h1, h2⟩ := h
  refine ⟨h1, ?_⟩
  rcases h2 with h2 | ⟨q, cap, cur, rfl, hbg, hg, r⟩
  · exact .inl h2
  · exact .inr ⟨q, cap, cur, rfl, hbg, (Below.heap_setCell _ _ _ _ (show q ≠ p from fun e => hv (by rw [e]; rfl))).trans hg, r⟩
/-- A store at a local's block. -/
theorem NS.set (h : NS w wr g v vm M Mm ps) {p : Nat} (hp : p ∈ ps) (j : Nat) (u : Value) : NS w (wr.setCell ⟨p, j, none⟩ u) g v vm M Mm ps := by
  obtain ⟨h1, h2, h3⟩ := h.loc p hp
  have hsz : (wr.setCell ⟨p, j, none⟩ u).heap.size = wr.heap.size := by simp [World.setCell]
  exact ⟨ownN_set h.N h3.g h3.v h3.d, row_set_other h.R h3.vm, h.D, h.vg, h.vv, h.far, h.b.setCell h1 _, h.gw, fun q hq => by rw [hsz]; exact h.loc q hq⟩
/-- Behind a call of the net. -/
theorem NS.net (h : NS w wr g v vm M Mm ps) (hN : OwnN w' g v' M') (hG : Grew wr w' g v v') (hM : ∀ m ∈ M', m ∈ M ∨ (0 < m.l.length → ∀ b o, m.A = some ⟨b, o, none⟩ → wr.heap.size ≤ b)) :
    NS w w' g v' vm M' Mm ps ∧ ∀ p ∈ ps, w'.heap[p]? = wr.heap[p]? := by
  have hoff : ∀ m ∈ M', ∀ p, p < wr.heap.size → (∀ x ∈ M, x.off p) → m.off p := fun m hm p hp hx => by
    rcases hM m hm with hm | hm
    · exact hx m hm
    · intro h0 b o e
      have := hm h0 b o e
      omega
  have hv : ∀ p, p < wr.heap.size → v.ownBlock ≠ some p → v'.ownBlock ≠ some p := fun p hp hvp e => by
    rcases hG.own with e2 | ⟨q, e2, hq⟩
    · exact hvp (e2 ▸ e)
    · rw [e2] at e; injection e with e; omega
  refine ⟨⟨hN, ?_, h.D, h.vg, fun q hq => hv q (World.ownsRow.lt h.R q hq).2 (h.vv q hq), fun m hm q hq => hoff m hm q (World.ownsRow.lt h.R q hq).2 (fun x hx => h.far x hx q hq), hG.newN h.N h.gw h.b, h.gw, fun p hp => ?_⟩, fun p hp => ?_⟩
  · obtain ⟨h1, h2⟩ := h.R
    refine ⟨h1, ?_⟩
    rcases h2 with h2 | ⟨q, cap, cur, e, hbg, hg, r⟩
    · exact .inl h2
    · have hq : vm.ownBlock = some q := by rw [e]; rfl
      exact .inr ⟨q, cap, cur, e, hbg, (hG.block q (World.ownsRow.lt h.R q hq).2 (fun e2 => h.vg (by rw [hq, e2])) (h.vv q hq)).trans hg, r⟩
  · obtain ⟨h1, h2, h3⟩ := h.loc p hp
    exact ⟨h1, Nat.lt_of_lt_of_le h2 hG.size, ⟨h3.g, hv p h2 h3.v, h3.vm, fun m hm => hoff m hm p h2 h3.d⟩⟩
  · obtain ⟨h1, h2, h3⟩ := h.loc p hp
    exact hG.block p h2 h3.g h3.v
theorem ownN_other (h : OwnN wr g v M) (hs : wr.heap.size ≤ w'.heap.size) (hb : ∀ k, k < wr.heap.size → (k = g ∨ v.ownBlock = some k ∨ ∃ m ∈ M, 0 < m.l.length ∧ ∃ o, m.A = some ⟨k, o, none⟩) → w'.heap[k]? = wr.heap[k]?) : OwnN w' g v M := by
  refine ⟨cell_keep (hb g h.lt (.inl rfl)) h.c, frozen_keep (hb g h.lt (.inl rfl)) h.f, Nat.lt_of_lt_of_le h.lt hs, ?_, fun x hx => ⟨(h.data x hx).1.other (fun hp b o e hlt => hb b hlt (.inr (.inr ⟨x, hx, hp, o, e⟩))) hs, (h.data x hx).2⟩, h.far⟩
  obtain ⟨h1, h2⟩ := h.row
  refine ⟨h1, ?_⟩
  rcases h2 with h2 | ⟨q, cap, cur, e, hbg, hg, r⟩
  · exact .inl h2
  · have hq : v.ownBlock = some q := by rw [e]; rfl
    exact .inr ⟨q, cap, cur, e, hbg, (hb q (World.ownsRow.lt h.row q hq).2 (.inr (.inl hq))).trans hg, r⟩
/-- Behind an append onto the law's list. -/
theorem NS.grow (h : NS w wr g v vm M Mm ps) (hR : w'.ownsRow w.heap.size 54 3 vm' Mm'.length (rowM Mm')) (hg : wr.grownBy w' vm.ownBlock) (hat : vm'.ownBlock = vm.ownBlock ∨ vm'.ownBlock = some wr.heap.size)
    (hD : ∀ x ∈ Mm', Bytes w w.heap.size x.A x.l ∧ x.l.length = x.n ∧ (x.A = none → x.c = 0) ∧ x.n ≤ 300) : NS w w' g v vm' M Mm' ps ∧ ∀ p ∈ ps, w'.heap[p]? = wr.heap[p]? := by
  have hne : ∀ p, p < wr.heap.size → vm.ownBlock ≠ some p → vm'.ownBlock ≠ some p := fun p hp hvp e => by
    rcases hat with e2 | e2
    · exact hvp (e2 ▸ e)
    · rw [e2] at e; injection e with e; omega
  refine ⟨⟨ownN_other h.N hg.size (fun k hk hc => hg.block k hk (fun e => ?_)), hR, hD, hne g h.N.lt h.vg, fun q hq e => ?_, fun m hm q hq h0 b o e => ?_, h.b.grown hg h.b.size (fun q e => (World.ownsRow.lt h.R q e).1), h.gw, fun p hp => ?_⟩, fun p hp => ?_⟩
  · rcases hc with rfl | hc | ⟨m, hm, h0, o, hA⟩
    · exact h.vg e.symm
    · exact h.vv k e.symm hc
    · exact h.far m hm k e.symm h0 k o hA rfl
  · have := (World.ownsRow.lt h.N.row q e).2
    exact hne q this (fun e2 => h.vv q e2 e) hq
  · intro hbq
    subst hbq
    exact hne b (data_lt h.N hm h0 e) (fun e2 => h.far m hm b e2 h0 b o e rfl) hq
  · obtain ⟨h1, h2, h3⟩ := h.loc p hp
    exact ⟨h1, Nat.lt_of_lt_of_le h2 hg.size, ⟨h3.g, h3.v, hne p h2 h3.vm, h3.d⟩⟩
  · obtain ⟨h1, h2, h3⟩ := h.loc p hp
    exact hg.block p h2 (fun e => h3.vm e.symm)
/-- The law's list in new memory. -/
theorem NS.fresh (h : NS w wr g v vm M Mm ps) (hb : Below wr.heap.size wr w') (hR : w'.ownsRow wr.heap.size 54 3 vm' Mm'.length (rowM Mm'))
    (hD : ∀ x ∈ Mm', x ∈ Mm) : NS w w' g v vm' M Mm' ps := by
  have hq : ∀ q, vm'.ownBlock = some q → wr.heap.size ≤ q := fun q e => (World.ownsRow.lt hR q e).1
  have hR' : w'.ownsRow w.heap.size 54 3 vm' Mm'.length (rowM Mm') := by
    refine ⟨hR.1, ?_⟩
    rcases hR.2 with h0 | ⟨q, cap, cur, e, hbg, r⟩
    · exact .inl h0
    · exact .inr ⟨q, cap, cur, e, Nat.le_trans h.b.size hbg, r⟩
  refine ⟨h.N.new_ hb, hR', fun x hx => h.D x (hD x hx), fun e => ?_, fun q e e2 => ?_, fun m hm q e h0 b o e2 => ?_, h.b.trans (hb.mono h.b.size), h.gw, fun p hp => ?_⟩
  · have := hq g e; have := h.N.lt; omega
  · have := hq q e; have := (World.ownsRow.lt h.N.row q e2).2; omega
  · have := hq q e; have := data_lt h.N hm h0 e2; omega
  · obtain ⟨h1, h2, h3⟩ := h.loc p hp
    exact ⟨h1, Nat.lt_of_lt_of_le h2 hb.size, ⟨h3.g, h3.v, fun e => by have := hq p e; omega, h3.d⟩⟩

/-! ### The two lists are alike -/
def Ms.key (m : Ms) : Bool × Int × List UInt8 := (m.a, m.h, m.l)
def Like (M Mm : List Ms) : Prop := M.map Ms.key = Mm.map Ms.key ∧ (∀ m ∈ M, m.n ≤ 300 ∧ rightS m.a m.h m.n = true ∧ m.l.length = m.n)
theorem Like.len (h : Like M Mm) : M.length = Mm.length := by have := congrArg List.length h.1; simpa using this
theorem Like.get (h : Like M Mm) {i : Nat} {x : Ms} (hx : Mm[i]? = some x) : ∃ m, M[i]? = some m ∧ m.key = x.key := by
  have e : (M.map Ms.key)[i]? = (Mm.map Ms.key)[i]? := by rw [h.1]
  rw [List.getElem?_map, List.getElem?_map, hx] at e
  cases hm : M[i]? with
  | none => rw [hm] at e; cases e
  | some m => rw [hm] at e; injection e with e; exact ⟨m, rfl, e⟩
theorem Like.count (h : Like M Mm) (b : Bool) : countM b M = countM b Mm := by
  have e : ∀ (L : List Ms), countM b L = (L.map Ms.key).countP (fun k => k.1 == b) := fun L => by
    unfold countM
    rw [List.countP_map]
    rfl
  rw [e, e, h.1]
theorem count_not (M : List Ms) : countM false M + countM true M = M.length := by
  unfold countM
  induction M with
  | nil => rfl
  | cons m M ih =>
    rw [List.countP_cons, List.countP_cons, List.length_cons]
    cases m.a <;> simp at ih ⊢ <;> omega
theorem Like.snoc (h : Like M Mm) {m x : Ms} (hk : m.key = x.key) (hn : m.n ≤ 300 ∧ rightS m.a m.h m.n = true ∧ m.l.length = m.n) : Like (M ++ [m]) (Mm ++ [x]) :=
  ⟨by rw [List.map_append, List.map_append, h.1]; show _ ++ [m.key] = _ ++ [x.key]; rw [hk], fun y hy => by
    rcases List.mem_append.1 hy with hy | hy
    · exact h.2 y hy
    · obtain rfl := List.mem_singleton.1 hy; exact hn⟩
theorem Like.without (h : Like M Mm) (i : Nat) : Like (M.take i ++ M.drop (i + 1)) (Mm.take i ++ Mm.drop (i + 1)) :=
  ⟨by rw [List.map_append, List.map_append, List.map_take, List.map_take, List.map_drop, List.map_drop, h.1], fun y hy => h.2 y (mem_less hy)⟩
theorem Like.turned (h : Like M Mm) {i k : Nat} {x y x' y' : Ms} (hx : M[i]? = some x) (hy : M[k]? = some y) (hkx : x.key = x'.key) (hky : y.key = y'.key) : Like ((M.set i y).set k x) ((Mm.set i y').set k x') :=
  ⟨by rw [List.map_set, List.map_set, List.map_set, List.map_set, h.1, hkx, hky], fun m hm => by
    rcases List.mem_or_eq_of_mem_set hm with hm | rfl
    · rcases List.mem_or_eq_of_mem_set hm with hm | rfl
      · exact h.2 m hm
      · exact h.2 m (List.mem_of_getElem? hy)
    · exact h.2 m (List.mem_of_getElem? hx)⟩
end Go.Proofs.Ytegpoghgddjmaaa
