/- The walks of pack.Writer: Int, Text, Len, Bytes. -/
import Derived.Test.YtegpoghgddjmaaaWriter
import Derived.Lib.AppendStr
namespace Go.Proofs.Ytegpoghgddjmaaa
open Go.RowKit
set_option maxRecDepth 100000

theorem wint_any (g : Nat) (v : Int) (l : List UInt8) (w : World) (h0 : -9223372036854775808 ≤ v) (h1 : v ≤ 9223372036854775807) (v0 : Value) (hW : OwnW w g v0 l) (hl : l.length ≤ 1099511627776) :
    Calls Try.prog 23 #[.pointer (some ⟨g, 0, none⟩), .int .i64 v] w fun e w' => e = .returned (.tuple #[]) ∧ (∃ v1, OwnW w' g v1 (l ++ num (zig v).toNat) ∧ Grew w w' g v0 v1) := by
  have hz : 0 ≤ zig v ∧ zig v < 18446744073709551616 := by unfold zig; split <;> omega
  obtain ⟨z, hz'⟩ := Int.eq_ofNat_of_zero_le hz.1
  go_enter Try.func23, Try.ntmps23
  go_wp2_with fail
  refine (zig_any v w h0 h1).mono ?_
  rintro e w' ⟨rfl, rfl⟩
  rw [hz']
  go_wp2_with fail
  refine (wnum_any g z l _ (by omega) v0 hW hl).mono ?_
  rintro e w1 ⟨rfl, hp⟩
  have Hp := Lib.hid hp
  clear hp
  go_wp2
  exact bodyPost_end (v := .tuple #[]) (by simp [results, Try.results23, go_sem]) rfl ⟨rfl, by rw [hz']; exact Hp.out⟩

/-- append of a string's bytes: the row is the old one or a new one. -/
theorem run_append_str (w : World) (ty base : Nat) (v : Value) (l : List UInt8) (hown : Own w base v l) (m : List UInt8) (hlen : l.length + m.length ≤ 140737488355328) (hbase : base ≤ w.heap.size) :
    ∃ v' w', (Builtin.append_ #[31, 9] ty #[v, S8 m]).run Try.prog w = .ok v' w' ∧ Own w' base v' (l ++ m) ∧ w.grownBy w' v.ownBlock ∧ (v'.ownBlock = v.ownBlock ∨ v'.ownBlock = some w.heap.size) := by
  obtain ⟨i, hi, hz, hs, hb⟩ := info_parts u8info
  have hsz : (⟨m.toArray⟩ : ByteArray).size = m.length := by simp [ByteArray.size]
  have hcells : Lib.strCells ⟨m.toArray⟩ = m.map B8 := by simp [Lib.strCells]
  obtain ⟨v', w', h1, h2, h3, h4⟩ := Lib.run_append_own_string (P := Try.prog) w base 31 9 ty 5 i Try.underlying31 Try.underlying9 hi hz hs hb v l.length (l.map B8) hown ⟨m.toArray⟩ (by rw [hsz]; simp only [maxLen]; omega) (by rw [hsz]; omega) hbase
  rw [hsz, hcells] at h2
  refine ⟨v', w', h1, by unfold Own; rw [List.length_append, List.map_append]; exact h2, h3, ?_⟩
  rcases hown.2 with ⟨rfl, h0⟩ | ⟨g, cap, cur, rfl, hbg, hg, hnc, hcm, hcs, ht⟩
  · by_cases hm : m.length = 0
    · exact .inl (by rw [h4.2 ⟨rfl, by rw [hsz]; exact hm⟩])
    · have hr := run_append_nil_string (P := Try.prog) w 31 9 ty 5 i _ Try.underlying31 Try.underlying9 hi hz ⟨m.toArray⟩ (by rw [hsz]; omega) (by rw [hsz]; omega) (by rw [hsz, hb]; omega)
      rw [hr] at h1
      injection h1 with e1 e2
      rw [← e1]
      exact .inr rfl
  · by_cases hroom : l.length + m.length ≤ cap
    · have hcs' : cur.size = cap := by simpa using hcs
      have hr := Lib.run_append_room_string (P := Try.prog) w 31 9 ty 5 i Try.underlying31 Try.underlying9 hi hs g l.length cap cur hg ⟨m.toArray⟩ (by rw [hsz]; exact hroom) (by rw [hsz]; omega)
      rw [hr] at h1
      injection h1 with e1 e2
      rw [← e1]
      exact .inl rfl
    · have holds : ∀ j u, (l.map B8)[j]? = some u → w.cell? ((⟨g, 0, none⟩ : Addr).add j) = some u := World.ownsRow.cells hown (g := g) rfl
      have hr := Lib.run_append_grow_string (P := Try.prog) w 31 9 ty 5 i _ Try.underlying31 Try.underlying9 hi hz ⟨g, 0, none⟩ l.length cap (l.map B8) (by rw [hs]; simp) holds ⟨m.toArray⟩ (by rw [hsz]; omega) (by rw [hsz]; omega) (by rw [hsz, hb]; exact growslice_fits (by omega) (by omega))
      rw [hr] at h1
      injection h1 with e1 e2
      rw [← e1]
      exact .inr rfl

theorem wpList_append_str {w : World} {ops : Array Oper} {rest : List Oper} {o : Oper} {a : Act} {Q : Exit → Act → World → Prop} (hgd : o.guard = none) (s x : Operand)
    (ho : o.op = .call { callee := .builtin .append, args := #[s, x], argTypes := #[31, 9] })
    (base : Nat) (v : Value) (l : List UInt8) (hs : a.eval s = v) (hown : Own w base v l) (m : List UInt8) (hx : a.eval x = S8 m)
    (hlen : l.length + m.length ≤ 140737488355328) (hbase : base ≤ w.heap.size)
    (h : ∀ A' c' w', Own w' base (.slice A' (l ++ m).length c') (l ++ m) → w.grownBy w' v.ownBlock → (((Value.slice A' (l ++ m).length c').ownBlock = v.ownBlock) ∨ (Value.slice A' (l ++ m).length c').ownBlock = some w.heap.size) →
      wpList Try.prog ops Q rest (a.put o.dst (.slice A' (l ++ m).length c')) w') : wpList Try.prog ops Q (o :: rest) a w := by
  refine wpList_plain hgd fun K hK => ?_
  obtain ⟨v', w', hr, h2, h3, h4⟩ := run_append_str w o.type base v l hown m hlen hbase
  obtain ⟨A', c', rfl, _⟩ := Own.form h2
  unfold Oper.wp execOp
  simp only [ho, resolve, invoke, builtin, Sem.run_bind, Sem.run_pure, Result.andThen_ok, List.map_toArray, List.map_cons, List.map_nil, hs, hx, hr]
  exact hK _ _ (h A' c' w' h2 h3 h4)
/-- As push, whatever the new slice. -/
theorem push2 {w W w1 : World} {g : Nat} {v v1 : Value} {l l' : List UInt8} (hW : OwnW w g v l) (hw : Below w.heap.size w W) (h2 : Own w1 (g + 1) v1 l') (hg : W.grownBy w1 v.ownBlock) (ho : v1.ownBlock = v.ownBlock ∨ v1.ownBlock = some W.heap.size) :
    OwnW (w1.setCell ⟨g, 0, none⟩ v1) g v1 l' ∧ Grew w (w1.setCell ⟨g, 0, none⟩ v1) g v v1 ∧ w1.cell? ⟨g, 0, none⟩ = some v ∧ w1.frozen? ⟨g, 0, none⟩ = false := by
  obtain ⟨hc, hf, hlt, hown⟩ := hW
  have hne : v.ownBlock ≠ some g := fun e => by have := (World.ownsRow.lt hown g e).1; omega
  have hs := hw.size
  have hb1 := (hg.block g (by omega) (fun e => hne e.symm)).trans (hw.block g hlt)
  have hc1 : w1.cell? ⟨g, 0, none⟩ = some v := (World.cell?_of_block (w := w) hb1).trans hc
  have hf1 : w1.frozen? ⟨g, 0, none⟩ = false := (World.frozen?_of_block (w := w) hb1).trans hf
  refine ⟨⟨World.cell?_setCell_same _ _ _ hc1, by rw [World.frozen?_setCell]; exact hf1, ?_, ownsRow_setCell_below h2 (by show g < g + 1; omega) _⟩, ⟨hg.os.trans hw.os, hg.tape.trans hw.tape, hg.output.trans hw.output, ?_, fun k hk hkg hkv => ?_, ?_⟩, hc1, hf1⟩
  · have := hg.size; simp [World.setCell]; omega
  · have := hg.size; simp [World.setCell]; omega
  · rw [Below.heap_setCell _ _ _ _ (by exact hkg)]
    exact (hg.block k (by omega) (fun e => hkv e.symm)).trans (hw.block k hk)
  · rcases ho with ho | ho
    · exact .inl ho
    · exact .inr ⟨_, ho, hs⟩

theorem num_length (v : Nat) : (num v).length ≤ 9 := by
  have ht : ∀ k, (tail8 v k).length = k := by
    intro k
    induction k with
    | zero => rfl
    | succ k ih => show (tail8 v k).length + 1 = k + 1; rw [ih]
  show (tail8 v (oth v)).length + 1 ≤ 9
  rw [ht]
  have := oth_le v
  omega

set_option maxHeartbeats 1000000 in
theorem wtext_any (g : Nat) (m : List UInt8) (l : List UInt8) (w : World) (v0 : Value) (hW : OwnW w g v0 l) (hl : l.length ≤ 549755813888) (hm : m.length ≤ 549755813888) :
    Calls Try.prog 26 #[.pointer (some ⟨g, 0, none⟩), S8 m] w fun e w' => e = .returned (.tuple #[]) ∧ (∃ v1, OwnW w' g v1 (l ++ (num m.length ++ m)) ∧ Grew w w' g v0 v1) := by
  go_enter Try.func26, Try.ntmps26
  go_wp2_with fail
  refine (wnum_any g m.length l _ (by omega) v0 hW (by omega)).mono ?_
  rintro e w1 ⟨rfl, v1, hW1, hG1⟩
  have hn9 := num_length m.length
  obtain ⟨L, hL⟩ : ∃ L, L = l ++ num m.length := ⟨_, rfl⟩
  rw [← hL] at hW1
  have hLl : L.length ≤ l.length + 9 := by rw [hL, List.length_append]; omega
  obtain ⟨A1, c1, rfl, -⟩ := Own.form hW1.2.2.2
  obtain ⟨hc1, hf1, hg1, hown1⟩ := id hW1
  have Hy := Lib.hid (And.intro hL (And.intro hW1 hG1))
  clear hL hW1 hG1
  go_wp2_with (at_builtin; refine wpList_append_str rfl (.tmp 13) (.tmp 14) rfl (g + 1) (.slice A1 L.length c1) L rfl hown1 m rfl (by omega) (by omega) ?_
               intro A2 c2 w2 ho2 hg2 hat2
               obtain ⟨hp1, hp2, hp3, hp4⟩ := push2 Hy.out.2.1 (nr w1) ho2 hg2 hat2
               rw [show (L ++ m).length = L.length + m.length by simp] at hp1 hp2
               have Hp1 := Lib.hid hp1
               have Hp2 := Lib.hid hp2
               clear ho2 hg2 hat2 hp1 hp2)
  have h2 := Hp1.out
  rw [Hy.out.1, List.append_assoc] at h2
  rw [Hy.out.1]
  exact bodyPost_end (v := .tuple #[]) (by simp [results, Try.results26, go_sem]) rfl ⟨rfl, _, h2, by rw [← Hy.out.1]; exact Hy.out.2.2.trans Hp2.out⟩
end Go.Proofs.Ytegpoghgddjmaaa
