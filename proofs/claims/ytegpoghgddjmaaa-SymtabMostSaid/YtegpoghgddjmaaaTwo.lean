/- A writer and a slice that grow side by side; the words of the law: few and short. -/
import Derived.Test.YtegpoghgddjmaaaRefForm
import Derived.Test.YtegpoghgddjmaaaWords
namespace Go.Proofs.Ytegpoghgddjmaaa
open Go.RowKit
set_option maxRecDepth 100000

/-- Are words few and short? -/
def someOk (L : List Wd) : Prop := L.length ≤ 60 ∧ ∀ (j : Nat) (x : Wd), L[j]? = some x → x.s.length ≤ 300
def SomePost (L : List Wd) (w : World) (e : Ending) (w' : World) : Prop := w' = w ∧ (e = .returned (.bool false) ∨ (e = .returned (.bool true) ∧ someOk L))
set_option maxHeartbeats 1000000 in
theorem some_any (A : Option Addr) (n cap : Nat) (L : List Wd) (w : World) (hA : Words w w.heap.size A L) (hn : L.length = n) :
    Calls Try.prog 19 #[.slice A n cap] w (SomePost L w) := by
  by_cases h60 : 60 < n
  · go_enter Try.func19, Try.ntmps19
    go_wp2
    go_ret
    exact ⟨rfl, .inl rfl⟩
  · have h60' : (n : Int) ≤ 60 := by omega
    go_enter Try.func19, Try.ntmps19
    go_wp2
    go_loop [3] (fun i => ∃ k : Nat, k ≤ n ∧ i = .int .i64 k ∧ Hid (∀ (j : Nat) (x : Wd), j < k → L[j]? = some x → x.s.length ≤ 300)) (fun i => n - (intOf i).toNat)
    case atStart => exact ⟨0, by omega, rfl, fun j x h => by omega⟩
    case round =>
      obtain ⟨k, hk, rfl, hH⟩ := hrel
      by_cases hend : k = n
      · subst hend
        go_wp2
        go_ret
        refine ⟨rfl, .inr ⟨rfl, by omega, fun j x hx => hH.out j x ?_ hx⟩⟩
        rw [← hn]
        exact (List.getElem?_eq_some_iff.1 hx).1
      · obtain ⟨b, off, x, rfl, hbg, hx, ⟨k0, k1, k2, k3⟩, hok⟩ := hA.at_ (k := k) (by omega)
        have Hx := Lib.hid (And.intro hx (And.intro hA hok))
        clear hx hA hok k0 k1 k2
        by_cases h3 : 300 < x.s.length
        · go_wp2
          go_ret
          exact ⟨rfl, .inl rfl⟩
        · have h3' : (x.s.length : Int) ≤ 300 := by omega
          go_wp2
          go_round
          case rel =>
            refine ⟨k + 1, by omega, by go_num, fun j y hj hy => ?_⟩
            by_cases hjk : j = k
            · subst hjk
              have := Hx.out.1
              rw [hy] at this
              injection this with this
              subst this
              omega
            · exact hH.out j y (by omega) hy
          case measure => simp [intOf]; omega

/-! ### A writer and a slice that grow side by side -/
theorem Own.same {w w' : World} {base : Nat} {o : Value} {l : List UInt8} (h : Own w base o l) (hb : ∀ q, o.ownBlock = some q → w'.heap[q]? = w.heap[q]?) : Own w' base o l := by
  obtain ⟨h1, h2⟩ := h
  refine ⟨h1, ?_⟩
  rcases h2 with h2 | ⟨g, cap, cur, rfl, hbg, hg, r⟩
  · exact .inl h2
  · exact .inr ⟨g, cap, cur, rfl, hbg, (hb g rfl).trans hg, r⟩
structure Two (w0 : World) (wr : World) (gw : Nat) (vw o : Value) (F : List UInt8) : Prop where
  wri : OwnW wr gw vw F
  all : Own wr (gw + 1) o F
  apart : ∀ q, vw.ownBlock = some q → o.ownBlock ≠ some q
  below : Below w0.heap.size w0 wr
  hB : w0.heap.size ≤ gw
theorem Two.later {w0 wr : World} {gw : Nat} {vw o : Value} {F : List UInt8} (h : Two w0 wr gw vw o F) {W : World} (hb : Below wr.heap.size wr W) : Two w0 W gw vw o F :=
  ⟨h.wri.again W hb, h.all.new_ hb, h.apart, h.below.trans (hb.mono h.below.size), h.hB⟩
/-- Behind the writer's call. -/
theorem Two.wrote {w0 W1 W2 : World} {gw : Nat} {vw o v1 : Value} {F : List UInt8} (h : Two w0 W1 gw vw o F) (hG : Grew W1 W2 gw vw v1) : Own W2 (gw + 1) o F ∧ (∀ q, v1.ownBlock = some q → o.ownBlock ≠ some q) ∧ Below w0.heap.size w0 W2 := by
  refine ⟨h.all.same fun q hq => ?_, fun q hq => ?_, hG.new_ h.wri h.hB h.below⟩
  · have hl := World.ownsRow.lt h.all q hq
    exact hG.block q hl.2 (by omega) (fun e => h.apart q e hq)
  · rcases hG.own with e | ⟨q', e, hq'⟩
    · exact h.apart q (by rw [← e]; exact hq)
    · intro ho
      have hl := World.ownsRow.lt h.all q ho
      rw [e] at hq
      injection hq with hq
      omega
/-- Behind the append of the same bytes. -/
theorem Two.step {w0 W1 W2 W3 W4 : World} {gw : Nat} {vw o v1 o' : Value} {F m : List UInt8} (h : Two w0 W1 gw vw o F) (hW : OwnW W2 gw v1 (F ++ m)) (hG : Grew W1 W2 gw vw v1) (h3 : Below W2.heap.size W2 W3)
    (ho : Own W4 (gw + 1) o' (F ++ m)) (hg : W3.grownBy W4 o.ownBlock) (hat : o'.ownBlock = o.ownBlock ∨ o'.ownBlock = some W3.heap.size) : Two w0 W4 gw v1 o' (F ++ m) := by
  obtain ⟨k1, k2, k3⟩ := h.wrote hG
  have hW3 := hW.again W3 h3
  have ho3 := k1.new_ h3
  have hne : some gw ≠ o.ownBlock := fun e => by have := (World.ownsRow.lt k1 gw e.symm).1; omega
  have hs := h3.size
  have hb1 := hg.block gw hW3.2.2.1 hne
  have h30 : Below w0.heap.size w0 W3 := k3.trans (h3.mono k3.size)
  refine ⟨⟨(World.cell?_of_block (w := W3) hb1).trans hW3.1, (World.frozen?_of_block (w := W3) hb1).trans hW3.2.1, Nat.lt_of_lt_of_le hW3.2.2.1 hg.size, hW3.2.2.2.same fun q hq => ?_⟩, ho, fun q hq => ?_, h30.grown hg h30.size (fun q e => ?_), h.hB⟩
  · exact hg.block q (World.ownsRow.lt hW3.2.2.2 q hq).2 (fun e => k2 q hq e.symm)
  · rcases hat with e | e
    · rw [e]; exact k2 q hq
    · rw [e]
      intro e2
      injection e2 with e2
      have := (World.ownsRow.lt hW3.2.2.2 q hq).2
      omega
  · have := (World.ownsRow.lt k1 q e).1
    have := h.hB
    omega

/-- The bytes of a word. -/
def form1 (x : Wd) : List UInt8 :=
  if x.kind = 0 then num x.v else if x.kind = 1 then num (zig x.n).toNat else if x.kind = 2 then leb x.v 8 else if x.kind = 3 then num x.s.length ++ x.s else if x.kind = 4 then x.s else []
def forms (L : List Wd) : List UInt8 := L.flatMap form1
theorem form1_le (x : Wd) (h : x.s.length ≤ 300) : (form1 x).length ≤ 309 := by
  have h1 := num_length x.v
  have h2 := num_length (zig x.n).toNat
  have h3 := num_length x.s.length
  unfold form1
  repeat' split
  all_goals (try rw [List.length_append])
  all_goals (try rw [leb_length])
  all_goals (first | omega | (simp; done))
theorem forms_le (L : List Wd) (k : Nat) (h : ∀ (j : Nat) (x : Wd), L[j]? = some x → x.s.length ≤ 300) : (forms (L.take k)).length ≤ 309 * k := by
  induction k with
  | zero => simp [forms]
  | succ k ih =>
    by_cases hk : k < L.length
    · rw [List.take_succ_eq_append_getElem hk]
      unfold forms at ih ⊢
      rw [List.flatMap_append, List.length_append]
      have := form1_le L[k] (h k _ (List.getElem?_eq_getElem hk))
      simp only [List.flatMap_cons, List.flatMap_nil, List.append_nil]
      omega
    · rw [List.take_of_length_le (by omega)] at ih ⊢
      omega
theorem forms_snoc (L : List Wd) (k : Nat) (x : Wd) (h : L[k]? = some x) : forms (L.take (k + 1)) = forms (L.take k) ++ form1 x := by
  rw [List.take_add_one, h]
  unfold forms
  rw [List.flatMap_append]
  simp

/-- The cells of a word. -/
def XC (W : World) (p : Nat) (x : Wd) : Prop := W.cell? ⟨p, 0, none⟩ = some (.int .i64 x.kind) ∧ W.cell? ⟨p, 1, none⟩ = some (.int .i64 x.n) ∧ W.cell? ⟨p, 2, none⟩ = some (.int .u64 x.v) ∧ W.cell? ⟨p, 3, none⟩ = some (S8 x.s)
theorem XC.keep {W W' : World} {p : Nat} {x : Wd} (h : XC W p x) (hb : W'.heap[p]? = W.heap[p]?) : XC W' p x :=
  ⟨(World.cell?_of_block hb).trans h.1, (World.cell?_of_block hb).trans h.2.1, (World.cell?_of_block hb).trans h.2.2.1, (World.cell?_of_block hb).trans h.2.2.2⟩
theorem XC.made (W : World) (x : Wd) (t : TypeId) : XC (W.alloc (.cells #[.int .i64 x.kind, .int .i64 x.n, .int .u64 x.v, S8 x.s] t)) W.heap.size x :=
  ⟨cell_of_row _ _ _ _ _ _ (heap_alloc_new W _), cell_of_row _ _ _ _ _ _ (heap_alloc_new W _), cell_of_row _ _ _ _ _ _ (heap_alloc_new W _), cell_of_row _ _ _ _ _ _ (heap_alloc_new W _)⟩
end Go.Proofs.Ytegpoghgddjmaaa
