/- Words for memory: a slice of bytes that reads as a list; what is kept. -/
import Derived.Test.YtegpoghgddjmaaaRows
import Derived.WalkKit
import Derived.WalkSpells
import Derived.WalkLawsBesides
import Derived.Laws.BitsAllLaws
import Derived.Lib.Hide
import Derived.Laws.CopyOwn
import Derived.Lib.SlBytesConst
import Derived.Maps.AppendAt
import Derived.Deep.AppendLies
namespace Go.Proofs.Ytegpoghgddjmaaa
open Go.RowKit
set_option maxRecDepth 100000

/-! ### What is new behind a world: 'Below' at the world's own size, joined. -/
theorem nt {a b c : World} (h : Below a.heap.size a b) (k : Below b.heap.size b c) : Below a.heap.size a c := h.trans (k.mono h.size)
theorem na {a b : World} (h : Below a.heap.size a b) (o : Obj) : Below a.heap.size a (b.alloc o) := h.alloc h.size o
theorem nd {a b : World} (h : Below a.heap.size a b) : Below a.heap.size a b.drew := h.drew
theorem nD {a b : World} (h : Below a.heap.size a b) (n : Nat) : Below a.heap.size a (b.drewN n) := ⟨h.os, h.tape, h.output, h.size, h.block⟩
theorem nr (a : World) : Below a.heap.size a a := Below.refl _ _

/-- A byte as a cell holds it. -/
abbrev B8 (x : UInt8) : Value := .int .u8 (x.toNat : Int)

/-- The slice value at A, of l.length elements, reads as the bytes l, and lies below block B. -/
def Bytes (w : World) (B : Nat) (A : Option Addr) (l : List UInt8) : Prop :=
  0 < l.length → ∃ b off, A = some ⟨b, off, none⟩ ∧ b < B ∧ ∀ j x, l[j]? = some x → w.cell? ⟨b, off + j, none⟩ = some (B8 x)

section
variable {w w' : World} {B B' : Nat} {A : Option Addr} {l : List UInt8}
theorem Bytes.nil_ (A : Option Addr) : Bytes w B A [] := fun h => absurd h (by simp)
theorem Bytes.at_ {k : Nat} (h : Bytes w B A l) (hk : k < l.length) : ∃ b off x, A = some ⟨b, off, none⟩ ∧ b < B ∧ l[k]? = some x ∧ w.cell? ⟨b, off + k, none⟩ = some (B8 x) := by
  obtain ⟨b, off, e, hb, hc⟩ := h (by omega)
  exact ⟨b, off, l[k], e, hb, List.getElem?_eq_getElem hk, hc k _ (List.getElem?_eq_getElem hk)⟩
theorem Bytes.keep (h : Bytes w B A l) (hk : ∀ p : Addr, p.block < B → w'.cell? p = w.cell? p) : Bytes w' B A l := fun hn => by
  obtain ⟨b, off, e, hb, hc⟩ := h hn
  exact ⟨b, off, e, hb, fun j x hx => (hk _ hb).trans (hc j x hx)⟩
theorem Bytes.more (h : Bytes w B A l) (hB : B ≤ B') : Bytes w B' A l := fun hn => by
  obtain ⟨b, off, e, hb, hc⟩ := h hn
  exact ⟨b, off, e, by omega, hc⟩
theorem Bytes.below (h : Bytes w B A l) (hb : Below B w w') : Bytes w' B A l := h.keep fun _ hp => hb.cell hp
theorem Bytes.alloc (h : Bytes w B A l) (hB : B ≤ w.heap.size) (o : Obj) : Bytes (w.alloc o) B A l := h.keep fun p hp => World.cell?_alloc_lt w o p (by omega)
end
theorem Bytes.new (w : World) (C : Array Value) (t : TypeId) (fr : Nat × Nat) (l : List UInt8) (h : C = (l.map B8).toArray) : Bytes (w.alloc (.cells C t fr)) (w.alloc (.cells C t fr)).heap.size (some ⟨w.heap.size, 0, none⟩) l := fun _ => by
  refine ⟨w.heap.size, 0, rfl, by simp, fun j x hx => ?_⟩
  rw [Nat.zero_add, cell_of_row _ _ _ _ _ _ (heap_alloc_new w _), h]
  simp [hx]

/-! ### A slice of bytes that the call itself made -/
/-- The slice value v, made by the call (blocks from base on), owns the bytes l. -/
abbrev Own (w : World) (base : Nat) (v : Value) (l : List UInt8) : Prop := w.ownsRow base 5 1 v l.length (l.map B8)
theorem u8info : (Try.prog.info? 5).map (fun i => (i.zero, i.size, i.bytes)) = some (some (.int .u8 0), 1, 1) := by kernel_rfl
theorem map_B8_one (l : List UInt8) : ∀ u ∈ l.map B8, u.oneCell' = true := by
  intro u hu
  obtain ⟨x, _, rfl⟩ := List.mem_map.1 hu
  rfl

section
variable {w w' : World} {base : Nat} {v : Value} {l : List UInt8}
theorem Own.nil_ (w : World) (base : Nat) : Own w base (.slice none 0 0) [] := World.ownsRow_nil _ _ _ _
/-- What a slice of the call's own looks like. -/
theorem Own.form (h : Own w base v l) : ∃ A cap, v = .slice A l.length cap ∧ Bytes w w.heap.size A l := by
  rcases h.2 with ⟨rfl, h0⟩ | ⟨g, cap, cur, hv, hb, hg, hnc, hcm, hcs, ht⟩
  · exact ⟨none, 0, by rw [h0], fun hn => by omega⟩
  · refine ⟨_, cap, hv, fun _ => ⟨g, 0, rfl, (Array.getElem?_eq_some_iff.1 hg).1, fun j x hx => ?_⟩⟩
    rw [Nat.zero_add, cell_of_row w g j _ _ _ hg]
    have hj : j < l.length := (List.getElem?_eq_some_iff.1 hx).1
    have : (cur.toList.take (l.length * 1))[j]? = some (B8 x) := by rw [ht]; simp [hx]
    rw [List.getElem?_take, if_pos (by omega)] at this
    simpa using this
theorem Own.bytes {A : Option Addr} {n c : Nat} (h : Own w base (.slice A n c) l) : Bytes w w.heap.size A l ∧ n = l.length := by
  obtain ⟨A', c', hv, hb⟩ := Own.form h
  injection hv with h1 h2 h3
  subst h1
  exact ⟨hb, h2⟩
theorem Own.cap {A : Option Addr} {n c : Nat} (h : Own w base (.slice A n c) l) : l.length ≤ c := by
  rcases h.2 with ⟨hv, h0⟩ | ⟨g, cap, cur, hv, _, _, hnc, _⟩
  · injection hv; omega
  · injection hv with _ _ h3; omega
theorem Own.rebase {base' : Nat} (h : Own w base v l) (hb : base' ≤ base) : Own w base' v l := by
  rcases h.2 with h0 | ⟨g, cap, cur, hv, hbg, r⟩
  · exact ⟨h.1, .inl h0⟩
  · exact ⟨h.1, .inr ⟨g, cap, cur, hv, Nat.le_trans hb hbg, r⟩⟩
theorem Own.capm {A : Option Addr} {n c : Nat} (h : Own w base (.slice A n c) l) : c ≤ 9223372036854775807 := by
  rcases h.2 with ⟨hv, h0⟩ | ⟨g, cap, cur, hv, _, _, _, hcm, _⟩
  · injection hv; omega
  · injection hv with _ _ h3; unfold maxLen at hcm; omega
theorem Own.some_ {A : Option Addr} {n c : Nat} (h : Own w base (.slice A n c) l) (hp : 0 < l.length) : ∃ g, A = some ⟨g, 0, none⟩ ∧ base ≤ g ∧ g < w.heap.size := by
  obtain ⟨g, cap, hv, hb, hl⟩ := World.ownsRow.form h hp
  injection hv with h1
  exact ⟨g, h1, hb, hl⟩
theorem Own.alloc (h : Own w base v l) (o : Obj) : Own (w.alloc o) base v l := World.ownsRow.alloc h o
theorem Own.kept {row : Option Nat} (h : Own w base v l) (hg : w.grownBy w' row) (hne : v.ownBlock = none ∨ v.ownBlock ≠ row) : Own w' base v l := World.ownsRow.kept h hg hne
theorem Own.new_ (h : Own w base v l) (hb : Below w.heap.size w w') : Own w' base v l :=
  World.ownsRow.kept h (row := none) ⟨hb.os, hb.tape, hb.output, hb.size, fun k hk _ => hb.block k hk⟩ (by cases v.ownBlock <;> simp)
end
theorem run_append_nothing (w : World) (t ty e : TypeId) (i : TypeInfo) (size base : Nat) (ht : Try.prog.underlying t = some (.slice e)) (hi : Try.prog.info? e = some i)
    (v : Value) (n : Nat) (xs : List Value) (hown : w.ownsRow base e size v n xs) (c : Nat) : (Builtin.append_ #[t, t] ty #[v, .slice none 0 c]).run Try.prog w = .ok v w := by
  rcases hown.2 with ⟨rfl, rfl⟩ | ⟨g, cap, cur, rfl, _, _, hnc, _⟩
  · simp [Builtin.append_, run_underlying ht, sizeOf, typeInfo, hi, Builtin.lenOf, Builtin.firstCells]
  · simp [Builtin.append_, run_underlying ht, sizeOf, typeInfo, hi, Builtin.lenOf, Builtin.firstCells, hnc, storeCells]

/-- append of bytes, nil or not, onto a slice of bytes of the call's own. -/
theorem run_append_bytes (w : World) (ty base : Nat) (v : Value) (l : List UInt8) (hown : Own w base v l) (B : Nat) (A : Option Addr) (c : Nat) (m : List UInt8) (hr : Bytes w B A m)
    (hlen : l.length + m.length ≤ 140737488355328) (hbase : base ≤ w.heap.size) :
    ∃ v' w', (Builtin.append_ #[31, 31] ty #[v, .slice A m.length c]).run Try.prog w = .ok v' w' ∧ Own w' base v' (l ++ m) ∧ w.grownBy w' v.ownBlock ∧
      (v'.ownBlock = v.ownBlock ∨ v'.ownBlock = some w.heap.size) := by
  obtain ⟨i, hi, hz, hs, hb⟩ := info_parts u8info
  by_cases hm : m = []
  · subst hm
    cases A with
    | none => exact ⟨v, w, run_append_nothing w _ ty _ i 1 base Try.underlying31 hi v _ _ hown c, by simpa using hown, World.grownBy.refl w _, .inl rfl⟩
    | some a =>
      obtain ⟨v', w', h1, h2, h3, _, h5⟩ := run_append_own_at (P := Try.prog) w base 31 ty 5 i _ 1 1 Try.underlying31 hi hz hs hb rfl (by decide) v _ _ hown a 0 c [] rfl (by simp) (by simp) (by simp only [maxLen]; simp at hlen; omega) (by simpa using hlen) hbase
      exact ⟨v', w', h1, by simpa using h2, h3, h5⟩
  · have hp : 0 < m.length := List.length_pos_iff.2 hm
    obtain ⟨b, off, rfl, _, hc⟩ := hr hp
    have hcells : ∀ j u, (m.map B8)[j]? = some u → w.cell? ((⟨b, off, none⟩ : Addr).add j) = some u := by
      intro j u hu
      rw [List.getElem?_map] at hu
      cases hx : m[j]? with
      | none => rw [hx] at hu; cases hu
      | some x =>
        rw [hx] at hu
        injection hu with hu
        subst hu
        have he : (⟨b, off, none⟩ : Addr).add j = ⟨b, off + j, none⟩ := by unfold Addr.add; split <;> simp_all
        rw [he]; exact hc j x hx
    obtain ⟨v', w', h1, h2, h3, _, h5⟩ := run_append_own_at (P := Try.prog) w base 31 ty 5 i _ 1 1 Try.underlying31 hi hz hs hb rfl (by decide) v _ _ hown ⟨b, off, none⟩ m.length c (m.map B8) (by simp) hcells (map_B8_one m)
      (by simp only [maxLen]; omega) (by omega) hbase
    exact ⟨v', w', h1, by unfold Own; rw [List.length_append, List.map_append]; exact h2, h3, h5⟩

theorem wp_append_bytes {w : World} {o : Oper} {a : Act} {K : Act → World → Prop} {Q : Exit → Act → World → Prop} (s x : Operand)
    (ho : o.op = .call { callee := .builtin .append, args := #[s, x], argTypes := #[31, 31] })
    (base : Nat) (v : Value) (l : List UInt8) (hs : a.eval s = v) (hown : Own w base v l) (B : Nat) (A : Option Addr) (c : Nat) (m : List UInt8) (hx : a.eval x = .slice A m.length c) (hr : Bytes w B A m)
    (hlen : l.length + m.length ≤ 140737488355328) (hbase : base ≤ w.heap.size)
    (h : ∀ v' w', Own w' base v' (l ++ m) → w.grownBy w' v.ownBlock → (v'.ownBlock = v.ownBlock ∨ v'.ownBlock = some w.heap.size) → K (a.put o.dst v') w') : o.wp Try.prog a w K Q := by
  obtain ⟨v', w', hrun, h2, h3, h4⟩ := run_append_bytes w o.type base v l hown B A c m hr hlen hbase
  unfold Oper.wp execOp
  simp only [ho, resolve, invoke, builtin, Sem.run_bind, Sem.run_pure, Result.andThen_ok, List.map_toArray, List.map_cons, List.map_nil, hs, hx, hrun]
  exact h v' w' h2 h3 h4
theorem wpList_append_bytes {w : World} {ops : Array Oper} {rest : List Oper} {o : Oper} {a : Act} {Q : Exit → Act → World → Prop} (hgd : o.guard = none) (s x : Operand)
    (ho : o.op = .call { callee := .builtin .append, args := #[s, x], argTypes := #[31, 31] })
    (base : Nat) (v : Value) (l : List UInt8) (hs : a.eval s = v) (hown : Own w base v l) (B : Nat) (A : Option Addr) (c : Nat) (m : List UInt8) (hx : a.eval x = .slice A m.length c) (hr : Bytes w B A m)
    (hlen : l.length + m.length ≤ 140737488355328) (hbase : base ≤ w.heap.size)
    (h : ∀ v' w', Own w' base v' (l ++ m) → w.grownBy w' v.ownBlock → (v'.ownBlock = v.ownBlock ∨ v'.ownBlock = some w.heap.size) → wpList Try.prog ops Q rest (a.put o.dst v') w') : wpList Try.prog ops Q (o :: rest) a w :=
  wpList_plain hgd fun _ hK => wp_append_bytes s x ho base v l hs hown B A c m hx hr hlen hbase fun v' w' h2 h3 h4 => hK _ _ (h v' w' h2 h3 h4)
/-- A new slice of no elements. -/
theorem Own.empty (w : World) (base : Nat) (hb : base ≤ w.heap.size) : Own (w.alloc (.cells #[] 5)) base (.slice (some ⟨w.heap.size, 0, none⟩) 0 0) [] :=
  ⟨rfl, .inr ⟨w.heap.size, 0, #[], rfl, hb, heap_alloc_new w _, Nat.le_refl _, by simp [maxLen], rfl, rfl⟩⟩

/-- append of bytes: the new value as a slice of that many bytes. -/
theorem wpList_append_bytes_form {w : World} {ops : Array Oper} {rest : List Oper} {o : Oper} {a : Act} {Q : Exit → Act → World → Prop} (hgd : o.guard = none) (s x : Operand)
    (ho : o.op = .call { callee := .builtin .append, args := #[s, x], argTypes := #[31, 31] })
    (base : Nat) (v : Value) (l : List UInt8) (hs : a.eval s = v) (hown : Own w base v l) (B : Nat) (A : Option Addr) (c : Nat) (m : List UInt8) (hx : a.eval x = .slice A m.length c) (hr : Bytes w B A m)
    (hlen : l.length + m.length ≤ 140737488355328) (hbase : base ≤ w.heap.size)
    (h : ∀ A' c' w', Own w' base (.slice A' (l ++ m).length c') (l ++ m) → w.grownBy w' v.ownBlock → (((Value.slice A' (l ++ m).length c').ownBlock = v.ownBlock) ∨ (Value.slice A' (l ++ m).length c').ownBlock = some w.heap.size) →
      wpList Try.prog ops Q rest (a.put o.dst (.slice A' (l ++ m).length c')) w') : wpList Try.prog ops Q (o :: rest) a w := by
  refine wpList_append_bytes hgd s x ho base v l hs hown B A c m hx hr hlen hbase fun v' w' h2 h3 h4 => ?_
  obtain ⟨A', c', rfl, _⟩ := Own.form h2
  exact h A' c' w' h2 h3 h4
/-- append of at least one byte: the new value written out. -/
theorem wpList_append_bytes_at {w : World} {ops : Array Oper} {rest : List Oper} {o : Oper} {a : Act} {Q : Exit → Act → World → Prop} (hgd : o.guard = none) (s x : Operand)
    (ho : o.op = .call { callee := .builtin .append, args := #[s, x], argTypes := #[31, 31] })
    (base : Nat) (v : Value) (l : List UInt8) (hs : a.eval s = v) (hown : Own w base v l) (B : Nat) (A : Option Addr) (c : Nat) (m : List UInt8) (hx : a.eval x = .slice A m.length c) (hr : Bytes w B A m)
    (hlen : l.length + m.length ≤ 140737488355328) (hbase : base ≤ w.heap.size) (hm : 0 < m.length)
    (h : ∀ g cap w', Own w' base (.slice (some ⟨g, 0, none⟩) (l ++ m).length cap) (l ++ m) → w.grownBy w' v.ownBlock → (v.ownBlock = some g ∨ g = w.heap.size) →
      wpList Try.prog ops Q rest (a.put o.dst (.slice (some ⟨g, 0, none⟩) (l ++ m).length cap)) w') : wpList Try.prog ops Q (o :: rest) a w := by
  refine wpList_append_bytes hgd s x ho base v l hs hown B A c m hx hr hlen hbase fun v' w' h2 h3 h4 => ?_
  obtain ⟨g, cap, rfl, _, _⟩ := World.ownsRow.form h2 (by rw [List.length_append]; omega)
  refine h g cap w' h2 h3 ?_
  rcases h4 with h4 | h4
  · exact .inl h4.symm
  · right; simpa [Value.ownBlock] using h4

section
variable {w : World} {base g cap : Nat} {l : List UInt8}
/-- The cells of a slice of the call's own. -/
theorem Own.cell (h : Own w base (.slice (some ⟨g, 0, none⟩) l.length cap) l) {j : Nat} {x : UInt8} (hx : l[j]? = some x) : w.cell? ⟨g, j, none⟩ = some (B8 x) := by
  obtain ⟨A, c, hv, hb⟩ := Own.form h
  have hj : j < l.length := (List.getElem?_eq_some_iff.1 hx).1
  obtain ⟨b, off, e, _, hc⟩ := hb (by omega)
  injection hv with h1 h2 h3
  subst h1
  injection e with e
  injection e with e1 e2 e3
  subst e1 e2
  have := hc j x hx
  rwa [Nat.zero_add] at this
theorem Own.free (h : Own w base (.slice (some ⟨g, 0, none⟩) l.length cap) l) (j : Nat) : w.frozen? ⟨g, j, none⟩ = false := by
  rcases h.2 with ⟨h0, _⟩ | ⟨g', cap', cur, hv, hb, hg, _⟩
  · cases h0
  · injection hv with h1
    injection h1 with h1
    injection h1 with h1
    subst h1
    exact frozen_of_row _ _ _ _ _ hg
theorem Own.lt (h : Own w base (.slice (some ⟨g, 0, none⟩) l.length cap) l) : base ≤ g ∧ g < w.heap.size := World.ownsRow.lt h g rfl
theorem Own.set_ (h : Own w base (.slice (some ⟨g, 0, none⟩) l.length cap) l) (k : Nat) (x : UInt8) : Own (w.setCell ⟨g, k, none⟩ (B8 x)) base (.slice (some ⟨g, 0, none⟩) (l.set k x).length cap) (l.set k x) := by
  rcases h.2 with ⟨h0, _⟩ | ⟨g', cap', cur, hv, hb, hg, hnc, hcm, hcs, ht⟩
  · cases h0
  · injection hv with h1 h2 h3
    injection h1 with h1
    injection h1 with h1
    subst h1
    refine ⟨by simp, .inr ⟨g, cap', cur.setIfInBounds k (B8 x), by simp [h3], hb, heap_setCell_same _ _ _ _ _ _ hg, by simpa using hnc, hcm, by simpa using hcs, ?_⟩⟩
    rw [Array.toList_setIfInBounds, List.map_set, List.length_set, ← ht, List.take_set]
end
/-- A slice literal. -/
theorem Own.lit (w : World) (base : Nat) (hb : base ≤ w.heap.size) (C : Array Value) (l : List UInt8) (h : C = (l.map B8).toArray) (hl : l.length ≤ 9223372036854775807) :
    Own (w.alloc (.cells C 5)) base (.slice (some ⟨w.heap.size, 0, none⟩) l.length l.length) l :=
  ⟨by simp, .inr ⟨w.heap.size, l.length, C, rfl, hb, heap_alloc_new w _, Nat.le_refl _, by simp only [maxLen]; exact hl, by rw [h]; simp, by rw [h, Nat.mul_one, List.take_of_length_le (by simp)]⟩⟩
/-- make([]byte, n). -/
theorem run_make_bytes (n : Nat) (hn : n ≤ 140737488355328) (w : World) : (Instr.makeSlice 31 (.int .i64 (n : Int)) (.int .i64 (n : Int))).run Try.prog w = .ok (.slice (some ⟨w.heap.size, 0, none⟩) n n) (w.alloc (.cells ((List.replicate n (0 : UInt8)).map B8).toArray 5)) := by
  obtain ⟨i, hi, hz, hs, hb⟩ := info_parts u8info
  have hr := run_make (P := Try.prog) w 31 5 i _ Try.underlying31 hi hz .i64 .i64 n n (by omega) (by omega) (by rw [hb]; omega) (by omega)
  rw [hs, Nat.mul_one] at hr
  simp only [Int.toNat_natCast] at hr
  rw [hr]
  congr 3
  apply Array.ext
  · simp [size_madeCells]
  · intro j h1 h2
    simp [madeCells, Value.cells, B8, Nat.mod_one]

/-! ### append of one element, whatever its type -/
theorem wpList_append_one {w : World} {ops : Array Oper} {rest : List Oper} {o : Oper} {a : Act} {Q : Exit → Act → World → Prop} (hgd : o.guard = none) (s x : Operand) (t e : TypeId) (z : Value) (bytes : Nat)
    (ho : o.op = .call { callee := .builtin .append, args := #[s, x], argTypes := #[t, t] })
    (ht : Try.prog.underlying t = some (.slice e)) (hi : (Try.prog.info? e).map (fun i => (i.zero, i.size, i.bytes)) = some (some z, 1, bytes)) (hz1 : z.cells.size = 1)
    (base : Nat) (v : Value) (n : Nat) (xs : List Value) (hs : a.eval s = v) (hown : w.ownsRow base e 1 v n xs) (ad : Addr) (c : Nat) (u : Value) (hx : a.eval x = .slice (some ad) 1 c) (hu : w.cell? ad = some u) (hu1 : u.oneCell' = true)
    (h63 : n + 1 ≤ maxLen) (hlen : (n + 1) * bytes ≤ 140737488355328) (hbase : base ≤ w.heap.size)
    (h : ∀ g cap w', w'.ownsRow base e 1 (.slice (some ⟨g, 0, none⟩) (n + 1) cap) (n + 1) (xs ++ [u]) → w.grownBy w' v.ownBlock → (v.ownBlock = some g ∨ g = w.heap.size) →
      wpList Try.prog ops Q rest (a.put o.dst (.slice (some ⟨g, 0, none⟩) (n + 1) cap)) w') : wpList Try.prog ops Q (o :: rest) a w := by
  obtain ⟨i, hi', hz, hsz, hb⟩ := info_parts hi
  refine wpList_plain hgd fun K hK => ?_
  refine wp_append_lies w s x t ho base e i z 1 bytes ht hi' hz hsz hb hz1 (by decide) v n xs hs hown ad 1 c [u] hx rfl ?_ ?_ (by decide) h63 hlen hbase _ rfl ?_
  · intro j u' hj
    match j, hj with
    | 0, hj => simp at hj; subst hj; simpa [Addr.add] using hu
  · intro u' hu'; simp at hu'; subst hu'; exact hu1
  · intro g cap w' h1 h2 h3 _
    exact hK _ _ (h g cap w' h1 h2 h3)
/-- Rows of different element types lie apart. -/
theorem rows_apart {w : World} {b1 b2 : Nat} {e1 e2 : TypeId} {s1 s2 n1 n2 : Nat} {v1 v2 : Value} {x1 x2 : List Value} (h1 : w.ownsRow b1 e1 s1 v1 n1 x1) (h2 : w.ownsRow b2 e2 s2 v2 n2 x2) (hne : e1 ≠ e2) : v1.ownBlock = none ∨ v1.ownBlock ≠ v2.ownBlock := by
  rcases h1.2 with ⟨rfl, _⟩ | ⟨g1, c1, cur1, rfl, _, hg1, _⟩
  · exact .inl rfl
  · right
    rcases h2.2 with ⟨rfl, _⟩ | ⟨g2, c2, cur2, rfl, _, hg2, _⟩
    · simp [Value.ownBlock]
    · intro he
      have : g1 = g2 := by simpa [Value.ownBlock] using he
      subst this
      rw [hg1] at hg2
      injection hg2 with hg2
      injection hg2 with _ ht
      exact hne ht
theorem ownsRow_new {w w' : World} {base e size n : Nat} {v : Value} {xs : List Value} (h : w.ownsRow base e size v n xs) (hb : Below w.heap.size w w') : w'.ownsRow base e size v n xs :=
  World.ownsRow.kept h (row := none) ⟨hb.os, hb.tape, hb.output, hb.size, fun k hk _ => hb.block k hk⟩ (by cases v.ownBlock <;> simp)

/-! ### Strings -/
/-- A string of these bytes. -/
abbrev S8 (l : List UInt8) : Value := .string ⟨l.toArray⟩
theorem run_str (W : World) (B : Nat) (A : Option Addr) (n c : Nat) (l : List UInt8) (hA : Bytes W B A l) (hn : l.length = n) :
    (convert 31 9 (.slice A n c)).run Try.prog W = .ok (S8 l) W := by
  subst hn
  cases A with
  | none =>
    have hl : l = [] := by
      cases l with
      | nil => rfl
      | cons x l => obtain ⟨b, off, e, _⟩ := hA (by simp); cases e
    subst hl
    exact run_convert_bytes_nil W _ _ Try.underlying31 Try.underlying5 _ _ _ Try.underlying9
  | some a =>
    have hl : (loadCells a l.length).run Try.prog W = .ok ((l.map fun x => (x.toNat : Int)).map (Value.int .u8)).toArray W := by
      by_cases h0 : l = []
      · subst h0; rfl
      · obtain ⟨b, off, e, _, hc⟩ := hA (List.length_pos_iff.2 h0)
        injection e with e
        subst e
        have := run_loadCells_list (P := Try.prog) W ⟨b, off, none⟩ ((l.map fun x => (x.toNat : Int)).map (Value.int .u8)) (fun j v hj => by
          have hplain : (⟨b, off, none⟩ : Addr).add j = ⟨b, off + j, none⟩ := by unfold Addr.add; split <;> simp_all
          rw [hplain]
          simp only [List.getElem?_map] at hj
          cases hx : l[j]? with
          | none => simp [hx] at hj
          | some x =>
            simp [hx] at hj
            rw [hc j x hx, ← hj])
        simpa using this
    rw [run_convert_bytes_string W _ _ _ _ _ _ Try.underlying31 Try.underlying5 Try.underlying9, run_bytesToString W _ _ c _ hl, foldl_push_bytes]
    have : (l.map fun x => (x.toNat : Int)).map (fun n => UInt8.ofNat n.toNat) = l := by
      rw [List.map_map]
      conv => rhs; rw [← List.map_id l]
      apply List.map_congr_left
      intro x _
      simp
    rw [this]
    simp [S8, ByteArray.empty, ByteArray.emptyWithCapacity]
    rfl
/-- The row that a string's bytes are laid into. -/
def rowS (l : List UInt8) (c : Nat) : Obj := .cells (bytesRow ⟨l.toArray⟩ c) 5 ((bytesRow ⟨l.toArray⟩ c).size, (bytesRow ⟨l.toArray⟩ c).size + 1)
def capS (W : World) (l : List UInt8) : Nat := grownCap W l.length 0 5
theorem run_bytes (W : World) (l : List UInt8) : (convert 9 31 (S8 l)).run Try.prog W = .ok (.slice (some ⟨W.heap.size, 0, none⟩) l.length (capS W l)) (W.drew.alloc (rowS l (capS W l))) := by
  have h := run_bytes_of_string (P := Try.prog) W 9 31 5 ⟨l.toArray⟩ Try.underlying9 Try.underlying31 Try.underlying5
  have e : (ByteArray.mk l.toArray).size = l.length := by simp [ByteArray.size]
  rw [e] at h
  exact h
theorem capS_ge (W : World) (l : List UInt8) : l.length ≤ capS W l := grownCap_ge W _ _ _
theorem capS_le (W : World) (l : List UInt8) (h : l.length ≤ 9223372036854775807) : capS W l ≤ 9223372036854775807 := grownCap_le_maxLen W _ _ _ h
theorem Bytes.newS (W : World) (l : List UInt8) (c : Nat) : Bytes (W.alloc (rowS l c)) (W.alloc (rowS l c)).heap.size (some ⟨W.heap.size, 0, none⟩) l := fun _ => by
  refine ⟨W.heap.size, 0, rfl, by simp, fun j x hx => ?_⟩
  have hj : j < l.length := (List.getElem?_eq_some_iff.1 hx).1
  have := bytesRow_at ⟨l.toArray⟩ c j (by simpa using hj)
  unfold rowS
  rw [Nat.zero_add, World.cell?_alloc_mark, this]
  have : l[j] = x := (List.getElem?_eq_some_iff.1 hx).2
  simp [this]
theorem Bytes.take {w : World} {B : Nat} {A : Option Addr} {l : List UInt8} (h : Bytes w B A l) (k : Nat) : Bytes w B A (l.take k) := fun hn => by
  rw [List.length_take] at hn
  obtain ⟨b, off, e, hb, hc⟩ := h (by omega)
  refine ⟨b, off, e, hb, fun j x hx => hc j x ?_⟩
  rw [List.getElem?_take] at hx
  split at hx
  · exact hx
  · cases hx

/-! ### Arguments -/
/-- What the shell of a row's proof tells of a slice of integers that came in. -/
def IsRow (k : IntKind) (w : World) (a : Option Addr) (len cap : Nat) (zs : List Int) : Prop :=
  (a = none ∧ len = 0 ∧ cap = 0 ∧ zs = []) ∨
  ∃ x, a = some x ∧ len ≤ cap ∧ cap ≤ maxLen ∧ zs.length = cap ∧ (∀ i, i < zs.length → w.cell? (x.add i) = some (.int k (zs.getD i 0))) ∧ ∀ n ∈ zs, (Lit.int k n).wf = true
theorem IsRow.bytes {w : World} {a : Option Addr} {len cap : Nat} {zs : List Int} (h : IsRow .u8 w a len cap zs) : ∃ l : List UInt8, l.length = len ∧ Bytes w w.heap.size a l ∧ l.length ≤ 9223372036854775807 := by
  rcases h with ⟨rfl, rfl, rfl, rfl⟩ | ⟨x, rfl, hl, hm, hz, hc, hw⟩
  · exact ⟨[], rfl, Bytes.nil_ _, by simp⟩
  · unfold maxLen at hm
    refine ⟨(zs.take len).map fun z => UInt8.ofNat z.toNat, by rw [List.length_map, List.length_take]; omega, fun hp => ?_, by rw [List.length_map, List.length_take]; omega⟩
    have hp' : 0 < len := by rw [List.length_map, List.length_take] at hp; omega
    have h0 := hc 0 (by omega)
    obtain ⟨b, off, sp⟩ := x
    have hsp : sp = none := by
      cases sp with
      | none => rfl
      | some n => 
        unfold World.cell? at h0
        simp [Addr.add] at h0
        split at h0 <;> simp at h0
    subst hsp
    refine ⟨b, off, rfl, ?_, fun j y hy => ?_⟩
    · exact block_lt_of_cell h0
    · rw [List.getElem?_map, List.getElem?_take] at hy
      have hj : j < len := by
        rcases Nat.lt_or_ge j len with h | h
        · exact h
        · rw [if_neg (by omega)] at hy; cases hy
      rw [if_pos hj, List.getElem?_eq_getElem (by omega)] at hy
      injection hy with hy
      have hcj := hc j (by omega)
      have he : (⟨b, off, none⟩ : Addr).add j = ⟨b, off + j, none⟩ := by unfold Addr.add; split <;> simp_all
      rw [he] at hcj
      rw [hcj, ← hy, List.getD_eq_getElem?_getD, List.getElem?_eq_getElem (by omega)]
      have hwj := hw zs[j] (List.getElem_mem _)
      simp [Lit.wf, IntKind.min, IntKind.max, IntKind.signed, IntKind.bits] at hwj
      show some (Value.int IntKind.u8 zs[j]) = some (Value.int IntKind.u8 ((UInt8.ofNat zs[j].toNat).toNat : Int))
      rw [UInt8.toNat_ofNat']
      congr 2
      omega
theorem nat_of_u32 {x : Int} (h : (Lit.int .u32 x).wf = true) : ∃ n : Nat, x = n ∧ n < 4294967296 := by
  simp [Lit.wf, IntKind.min, IntKind.max, IntKind.signed, IntKind.bits] at h
  exact ⟨x.toNat, by omega, by omega⟩
theorem nat_of_u8 {x : Int} (h : (Lit.int .u8 x).wf = true) : ∃ n : Nat, x = n ∧ n < 256 := by
  simp [Lit.wf, IntKind.min, IntKind.max, IntKind.signed, IntKind.bits] at h
  exact ⟨x.toNat, by omega, by omega⟩
theorem nat_of_u64 {x : Int} (h : (Lit.int .u64 x).wf = true) : ∃ n : Nat, x = n ∧ n < 18446744073709551616 := by
  simp [Lit.wf, IntKind.min, IntKind.max, IntKind.signed, IntKind.bits] at h
  exact ⟨x.toNat, by omega, by omega⟩
theorem int_of_i64 {x : Int} (h : (Lit.int .i64 x).wf = true) : -9223372036854775808 ≤ x ∧ x ≤ 9223372036854775807 := by
  simp [Lit.wf, IntKind.min, IntKind.max, IntKind.signed, IntKind.bits] at h
  exact ⟨by omega, by omega⟩
end Go.Proofs.Ytegpoghgddjmaaa
