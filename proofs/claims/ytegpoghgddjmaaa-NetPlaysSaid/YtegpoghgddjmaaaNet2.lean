/- The walks of package net: New, Send. -/
import Derived.Test.YtegpoghgddjmaaaNet
import Derived.Deep.RegionLaw
namespace Go.Proofs.Ytegpoghgddjmaaa
open Go.RowKit
set_option maxRecDepth 100000

/-- A message under way: its fields, its data's bytes. -/
structure Ms where
  a : Bool
  h : Int
  A : Option Addr
  n : Nat
  c : Nat
  l : List UInt8
def Ms.cells (m : Ms) : List Value := [.bool m.a, .int .i64 m.h, .slice m.A m.n m.c]
def rowM (M : List Ms) : List Value := M.flatMap Ms.cells
/-- The net at block g, whose slice is v, holds the messages M. -/
structure OwnN (w : World) (g : Nat) (v : Value) (M : List Ms) : Prop where
  c : w.cell? ⟨g, 0, none⟩ = some v
  f : w.frozen? ⟨g, 0, none⟩ = false
  lt : g < w.heap.size
  row : w.ownsRow (g + 1) 54 3 v M.length (rowM M)
  data : ∀ m ∈ M, Bytes w w.heap.size m.A m.l ∧ m.l.length = m.n ∧ (m.A = none → m.c = 0)
  far : ∀ m ∈ M, 0 < m.l.length → ∀ b off, m.A = some ⟨b, off, none⟩ → b ≠ g ∧ v.ownBlock ≠ some b
theorem OwnN.new_ {w w' : World} {g : Nat} {v : Value} {M : List Ms} (h : OwnN w g v M) (hb : Below w.heap.size w w') : OwnN w' g v M :=
  ⟨(hb.cell (p := ⟨g, 0, none⟩) h.lt).trans h.c, (hb.frozen (p := ⟨g, 0, none⟩) h.lt).trans h.f, Nat.lt_of_lt_of_le h.lt hb.size, ownsRow_new h.row hb, fun m hm => ⟨((h.data m hm).1.below hb).more hb.size, (h.data m hm).2⟩, h.far⟩
theorem nnew_any (w : World) : Calls Try.prog 39 #[] w fun e w' => e = .returned (.pointer (some ⟨w.heap.size, 0, none⟩)) ∧ OwnN w' w.heap.size (.slice none 0 0) [] ∧ Below w.heap.size w w' := by
  go_enter Try.func39, Try.ntmps39
  go_wp2
  go_ret
  refine ⟨rfl, ⟨?_, ?_, ?_, World.ownsRow_nil _ _ _ _, fun m hm => (by cases hm), fun m hm => (by cases hm)⟩, na (nr w) _⟩
  · exact (cell_of_row _ _ _ _ _ _ (heap_alloc_new w _))
  · exact World.frozen?_alloc_new w _ _ 0
  · simp
theorem msgInfo : (Try.prog.info? 54).map (fun i => (i.zero, i.size, i.bytes)) = some (some (MV false 0 none 0 0), 3, 40) := by kernel_rfl

def NSendNo (g : Nat) (v : Value) (M : List Ms) (w : World) (e : Ending) (w' : World) : Prop := e = .returned (.bool false) ∧ OwnN w' g v M ∧ Below w.heap.size w w'
def NSendYes (g : Nat) (v : Value) (M : List Ms) (a : Bool) (h : Int) (n : Nat) (l : List UInt8) (w : World) (e : Ending) (w' : World) : Prop :=
  e = .returned (.bool true) ∧ ∃ v' A' c', OwnN w' g v' (M ++ [⟨a, h, A', n, c', l⟩]) ∧ Grew w w' g v v'
set_option maxHeartbeats 2000000 in
theorem nsend_no (g : Nat) (v : Value) (M : List Ms) (a : Bool) (h : Int) (A : Option Addr) (n c : Nat) (w : World) (hN : OwnN w g v M) (hn : n ≤ 9223372036854775807) (hno : M.length = 4096 ∨ rightS a h n = false) :
    Calls Try.prog 40 #[.pointer (some ⟨g, 0, none⟩), MV a h A n c] w (NSendNo g v M w) := by
  have hb1 : Below w.heap.size w (w.alloc (.cells #[.bool a, .int .i64 h, .slice A n c] 54)) := na (nr w) _
  have hN1 := hN.new_ hb1
  have hm1 := MC.made w a h (.slice A n c) 54
  obtain ⟨p0, p1, p2, _, _, _⟩ := hm1
  have c1 := hN1.c
  have Hrow : ∃ A0 c0, v = .slice A0 M.length c0 := by
    rcases hN.row.2 with ⟨h1, h2⟩ | ⟨q, cap, cur, h1, _⟩
    · exact ⟨none, 0, by rw [h1, h2]⟩
    · exact ⟨_, _, h1⟩
  obtain ⟨A0, c0, rfl⟩ := Hrow
  by_cases h4 : M.length = 4096
  · have h4' : (M.length : Int) = 4096 := by omega
    go_enter Try.func40, Try.ntmps40
    go_wp2_with fail
    go_ret
    exact ⟨rfl, hN1, hb1⟩
  · have hr : rightS a h n = false := by rcases hno with h | h; exact absurd h h4; exact h
    have h4b : ((M.length : Int) == 4096) = false := by rw [beq_eq_false_iff_ne]; omega
    go_enter Try.func40, Try.ntmps40
    go_wp2_with fail
    refine (right_any a h A n c _ hn).mono ?_
    rintro e w2 ⟨rfl, hb2⟩
    rw [hr]
    have H2 := Lib.hid (And.intro (hN1.new_ hb2) (nt hb1 hb2))
    clear hN1 hb1 hb2 hN
    go_wp2_with fail
    go_ret
    exact ⟨rfl, H2.out⟩
theorem Bytes.other {w w' : World} {B B' : Nat} {A : Option Addr} {l : List UInt8} (h : Bytes w B A l) (hb : 0 < l.length → ∀ b off, A = some ⟨b, off, none⟩ → b < B → w'.heap[b]? = w.heap[b]?) (hB : B ≤ B') : Bytes w' B' A l := fun hp => by
  obtain ⟨b, off, e, h1, h2⟩ := h hp
  exact ⟨b, off, e, by omega, fun j x hx => (World.cell?_of_block (hb hp b off e h1)).trans (h2 j x hx)⟩
/-- Behind the append of a message onto the net's slice, kept in the net. -/
theorem npush {W w4 : World} {g g' cap : Nat} {v : Value} {M : List Ms} {m : Ms} (hN : OwnN W g v M) (hm : Bytes W W.heap.size m.A m.l ∧ m.l.length = m.n ∧ (m.A = none → m.c = 0)) (hfar : 0 < m.l.length → ∀ b off, m.A = some ⟨b, off, none⟩ → b ≠ g ∧ v.ownBlock ≠ some b)
    (ho : w4.ownsRow (g + 1) 54 3 (.slice (some ⟨g', 0, none⟩) (M.length + 1) cap) (M.length + 1) (rowM M ++ m.cells)) (hg : W.grownBy w4 v.ownBlock) (hat : v.ownBlock = some g' ∨ g' = W.heap.size) :
    OwnN (w4.setCell ⟨g, 0, none⟩ (.slice (some ⟨g', 0, none⟩) (M.length + 1) cap)) g (.slice (some ⟨g', 0, none⟩) (M.length + 1) cap) (M ++ [m]) ∧ Grew W (w4.setCell ⟨g, 0, none⟩ (.slice (some ⟨g', 0, none⟩) (M.length + 1) cap)) g v (.slice (some ⟨g', 0, none⟩) (M.length + 1) cap) ∧ w4.cell? ⟨g, 0, none⟩ = some v ∧ w4.frozen? ⟨g, 0, none⟩ = false := by
  have hne : v.ownBlock ≠ some g := fun e => by have := (World.ownsRow.lt hN.row g e).1; omega
  have hb1 := hg.block g hN.lt (fun e => hne e.symm)
  have hc1 := (World.cell?_of_block hb1).trans hN.c
  have hf1 := (World.frozen?_of_block hb1).trans hN.f
  have hsz : (w4.setCell ⟨g, 0, none⟩ (.slice (some ⟨g', 0, none⟩) (M.length + 1) cap)).heap.size = w4.heap.size := by simp [World.setCell]
  have hall : ∀ x ∈ M ++ [m], (Bytes W W.heap.size x.A x.l ∧ x.l.length = x.n ∧ (x.A = none → x.c = 0)) ∧ (0 < x.l.length → ∀ b off, x.A = some ⟨b, off, none⟩ → b ≠ g ∧ v.ownBlock ≠ some b) := by
    intro x hx
    rcases List.mem_append.1 hx with hx | hx
    · exact ⟨hN.data x hx, hN.far x hx⟩
    · obtain rfl : x = m := by simpa using hx
      exact ⟨hm, hfar⟩
  refine ⟨⟨World.cell?_setCell_same _ _ _ hc1, by rw [World.frozen?_setCell]; exact hf1, by rw [hsz]; exact Nat.lt_of_lt_of_le hN.lt hg.size, ?_, fun x hx => ⟨?_, (hall x hx).1.2⟩, fun x hx hp b off e => ?_⟩, ⟨hg.os, hg.tape, hg.output, by rw [hsz]; exact hg.size, fun k hk hkg hkv => ?_, ?_⟩, hc1, hf1⟩
  · have : rowM (M ++ [m]) = rowM M ++ m.cells := by unfold rowM; rw [List.flatMap_append]; simp
    rw [this, List.length_append]
    exact ownsRow_setCell_below ho (by show g < g + 1; omega) _
  · refine (hall x hx).1.1.other (fun hp b off e hbl => ?_) (by rw [hsz]; exact hg.size)
    obtain ⟨h1, h2⟩ := (hall x hx).2 hp b off e
    rw [Below.heap_setCell _ _ _ _ (show b ≠ g from h1)]
    exact hg.block b hbl (fun e => h2 e.symm)
  · obtain ⟨h1, h2⟩ := (hall x hx).2 hp b off e
    refine ⟨h1, fun e2 => ?_⟩
    have e3 : g' = b := by simpa [Value.ownBlock] using e2
    obtain ⟨b', off', e4, h5, _⟩ := (hall x hx).1.1 hp
    rw [e] at e4
    injection e4 with e4
    injection e4 with e4 _
    rcases hat with hat | hat
    · rw [e3] at hat; exact h2 hat
    · omega
  · rw [Below.heap_setCell _ _ _ _ (by exact hkg)]
    exact hg.block k hk (fun e => hkv e.symm)
  · rcases hat with h | h
    · exact .inl (by rw [h]; rfl)
    · exact .inr ⟨g', rfl, by omega⟩

theorem msg_news (W : World) (a : Bool) (h : Int) (v : Value) : ∀ (j : Nat) (u : Value), ([.bool a, .int .i64 h, v] : List Value)[j]? = some u → (W.alloc (.cells #[.bool a, .int .i64 h, v] 54)).cell? ((⟨W.heap.size, 0, none⟩ : Addr).add j) = some u := fun j u hj => by
  match j, hj with
  | 0, hj => simp at hj; subst hj; simp [Addr.add]
  | 1, hj => simp at hj; subst hj; simp [Addr.add]
  | 2, hj => simp at hj; subst hj; simp [Addr.add]
theorem msg_one (a : Bool) (h : Int) (A : Option Addr) (n c : Nat) : ∀ u ∈ ([.bool a, .int .i64 h, .slice A n c] : List Value), u.oneCell' = true := fun u hu => by
  simp at hu
  rcases hu with rfl | rfl | rfl <;> rfl
theorem Grew.of_below {w w' : World} (h : Below w.heap.size w w') (g : Nat) (v : Value) : Grew w w' g v v := ⟨h.os, h.tape, h.output, h.size, fun k hk _ _ => h.block k hk, .inl rfl⟩
theorem nsend_data {W3 : World} {base n c' : Nat} {A' : Option Addr} {l : List UInt8} {o : Obj} (ho : Own W3 base (.slice A' l.length c') l) (hn : l.length = n) : Bytes (W3.alloc o) (W3.alloc o).heap.size A' l ∧ l.length = n ∧ (A' = none → c' = 0) :=
  ⟨(ho.bytes.1.below (na (nr W3) o)).more (na (nr W3) o).size, hn, own_nil ho⟩
theorem nsend_far {W0 W3 : World} {g c' : Nat} {v : Value} {M : List Ms} {A' : Option Addr} {l : List UInt8} (hN : OwnN W0 g v M) (ho : Own W3 W0.heap.size (.slice A' l.length c') l) : 0 < l.length → ∀ b off, A' = some ⟨b, off, none⟩ → b ≠ g ∧ v.ownBlock ≠ some b := fun hp b off e => by
  obtain ⟨q, e2, hq, _⟩ := ho.some_ hp
  rw [e] at e2
  injection e2 with e2
  injection e2 with e2 _
  have := hN.lt
  exact ⟨by omega, fun e3 => by have := (World.ownsRow.lt hN.row b e3).2; omega⟩
set_option maxHeartbeats 4000000 in
theorem nsend_yes (g : Nat) (v : Value) (M : List Ms) (a : Bool) (h : Int) (A : Option Addr) (n c : Nat) (l : List UInt8) (w : World) (hN : OwnN w g v M) (hA : Bytes w w.heap.size A l) (hn : l.length = n) (hcap : A = none → c = 0) (hM : M.length < 4096) (hr : rightS a h n = true) (hnl : n ≤ 140737488355328) :
    Calls Try.prog 40 #[.pointer (some ⟨g, 0, none⟩), MV a h A n c] w (NSendYes g v M a h n l w) := by
  have hb1 : Below w.heap.size w (w.alloc (.cells #[.bool a, .int .i64 h, .slice A n c] 54)) := na (nr w) _
  have hm1 := MC.made w a h (.slice A n c) 54
  have hs1 : w.heap.size < (w.alloc (.cells #[.bool a, .int .i64 h, .slice A n c] 54)).heap.size := by simp
  have Hrow : ∃ A0 c0, v = .slice A0 M.length c0 := by
    rcases hN.row.2 with ⟨h1, h2⟩ | ⟨q, cap, cur, h1, _⟩
    · exact ⟨none, 0, by rw [h1, h2]⟩
    · exact ⟨_, _, h1⟩
  obtain ⟨A0, c0, rfl⟩ := Hrow
  have h4b : ((M.length : Int) == 4096) = false := by rw [beq_eq_false_iff_ne]; omega
  have hN1 := hN.new_ hb1
  have c1 := hN1.c
  obtain ⟨p0, p1, p2, _, _, _⟩ := id hm1
  go_enter Try.func40, Try.ntmps40
  go_wp2_with fail
  refine (right_any a h A n c _ (by omega)).mono ?_
  rintro e w2 ⟨rfl, hb2⟩
  rw [hr]
  obtain ⟨p0, p1, p2, _, _, _⟩ := hm1.keep (hb2.block w.heap.size hs1)
  have hN2 := hN1.new_ hb2
  have hb := nt hb1 hb2
  have hA2 := (hA.below hb).more hb.size
  have c1 := hN2.c
  clear hm1 hN1 hb1 hb2 hN hA hs1
  go_upto_region 3 with fail
  obtain ⟨i, hi, hz, hsz, hby⟩ := info_parts msgInfo
  have HD := Lib.hid (And.intro (hN2.new_ (nd (nr w2))) (And.intro (nd hb) (show Bytes w2.drew w2.drew.heap.size A l from hA2)))
  have p0 : w2.drew.cell? ⟨w.heap.size, 0, none⟩ = some (.bool a) := p0
  have p1 : w2.drew.cell? ⟨w.heap.size, 1, none⟩ = some (.int .i64 h) := p1
  have p2 : w2.drew.cell? ⟨w.heap.size, 2, none⟩ = some (.slice A n c) := p2
  have c1 : w2.drew.cell? ⟨g, 0, none⟩ = some (.slice A0 M.length c0) := c1
  have Hi := Lib.hid (And.intro hi (And.intro hz (And.intro hsz hby)))
  clear hi hz hsz hby hN2 hb hA2
  go_region_law (first
    | (go_simp; go_at_call 84; refine (nclone_any a h A n c l _ HD.out.2.2 hn hnl hcap).mono ?_; rintro e W3 ⟨A', c', rfl, ho, hnn, hb3⟩; have c1 := (HD.out.1.new_ hb3).c; have HN4 := Lib.hid ((HD.out.1.new_ hb3).new_ (na (nr W3) (.cells #[.bool a, .int .i64 h, .slice A' n c'] 54))); have c2 := HN4.out.c; have HO := Lib.hid (And.intro ho hb3); clear ho hnn hb3)
    | (refine step_append_lies _ rfl (.tmp 20) (.tmp 23) 60 rfl (g + 1) 54 i (MV false 0 none 0 0) 3 40 Try.underlying60 Hi.out.1 Hi.out.2.1 Hi.out.2.2.1 Hi.out.2.2.2 rfl (by decide) (.slice A0 M.length c0) M.length (rowM M) (by simp [Act.eval]) HN4.out.row ⟨W3.heap.size, 0, none⟩ 1 1 [.bool a, .int .i64 h, .slice A' n c'] (by simp [Act.eval]) rfl (msg_news W3 a h _) (msg_one a h A' n c') (by decide) (by unfold maxLen; omega) (by omega) HN4.out.lt _ rfl ?_; intro g' cap w4 hown hgrow hat hlt; obtain ⟨hP, hG, k1, k2⟩ := npush (m := ⟨a, h, A', n, c', l⟩) HN4.out (nsend_data HO.out.1 hn) (nsend_far HD.out.1 HO.out.1) hown hgrow hat; have HP := Lib.hid (And.intro hP hG); clear hP hG hown hgrow hat hlt))
  all_goals (
    go_wp2_with fail
    go_ret
    exact ⟨rfl, _, A', c', HP.out.1, (Grew.of_below ((HD.out.2.1.trans (HO.out.2.mono HD.out.2.1.size)).trans ((na (nr W3) _).mono (Nat.le_trans HD.out.2.1.size HO.out.2.size))) g _).trans HP.out.2⟩)
end Go.Proofs.Ytegpoghgddjmaaa
