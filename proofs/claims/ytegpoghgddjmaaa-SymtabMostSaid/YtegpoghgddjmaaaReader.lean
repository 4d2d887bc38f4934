/- bytes.Clone; pack.Writer's Len, Bytes; pack.Reader's small methods. -/
import Derived.Test.YtegpoghgddjmaaaWriter2
import Derived.Lib.SlBytesConst
namespace Go.Proofs.Ytegpoghgddjmaaa
open Go.RowKit
set_option maxRecDepth 100000

/-! ### bytes.Clone -/
/-- A copy of l came back: nil only where there was nil. -/
def ClonePost (A : Option Addr) (n : Nat) (l : List UInt8) (w : World) (e : Ending) (w' : World) : Prop :=
  ∃ A' c, e = .returned (.slice A' n c) ∧ Own w' w.heap.size (.slice A' l.length c) l ∧ (A' = none → A = none) ∧ Below w.heap.size w w'
set_option maxHeartbeats 400000 in
theorem clone_any (A : Option Addr) (n cap : Nat) (l : List UInt8) (w : World) (hA : Bytes w w.heap.size A l) (hn : l.length = n) (hl : n ≤ 140737488355328) (hcap : A = none → cap = 0) :
    Calls Try.prog 80 #[.slice A n cap] w (ClonePost A n l w) := by
  have hq := fun W n' c' => Lib.run_eql_slice_nil (P := Try.prog) W 31 5 A n cap n' c' Try.underlying31
  cases A with
  | none =>
    have hl0 : l = [] := by
      cases l with
      | nil => rfl
      | cons x l => obtain ⟨b, off, e, _⟩ := hA (by simp); cases e
    subst hl0
    obtain rfl := hcap rfl
    obtain rfl : n = 0 := by simpa using hn.symm
    clear hq hn hA hcap
    have hq := fun W => Lib.run_eql_slice_nil (P := Try.prog) W 31 5 none 0 0 0 0 Try.underlying31
    go_enter Try.func80, Try.ntmps80
    go_wp2
    go_ret
    exact ⟨none, 0, rfl, Own.nil_ _ _, fun _ => rfl, nr w⟩
  | some a =>
    subst hn
    have hA1 := Lib.hid (hA.below (na (nr w) (.cells #[] 5)))
    have hn : ([] : List UInt8).length + l.length ≤ 140737488355328 := by simp; omega
    go_enter Try.func80, Try.ntmps80
    go_wp2_with (at_builtin; refine wpList_append_bytes_form rfl (.tmp 5) (.tmp 6) rfl w.heap.size (.slice (some ⟨w.heap.size, 0, none⟩) 0 0) [] rfl (Own.empty _ _ (Nat.le_refl _)) w.heap.size (some a) cap l rfl hA1.out hn (na (nr w) _).size ?_
                 intro A2 c2 w2 hown hg hat; rw [List.nil_append] at hown hat ⊢; clear hA1 hn
                 have hb2 : Below w.heap.size w w2 := (na (nr w) _).grown hg (na (nr w) _).size (fun q e => by simp [Value.ownBlock] at e; omega)
                 have Hat := Lib.hid hat; clear hat; clear hg)
    go_ret
    refine ⟨A2, c2, rfl, hown, fun e => ?_, hb2⟩
    subst e
    have := Hat.out
    simp [Value.ownBlock] at this

/-! ### Wrap -/
theorem own_nil {w : World} {base n c : Nat} {A : Option Addr} {l : List UInt8} (h : Own w base (.slice A n c) l) : A = none → c = 0 := by
  intro e
  rcases h.2 with ⟨e1, _⟩ | ⟨g', _, _, e1, _⟩
  · injection e1
  · subst e
    injection e1 with e1
    cases e1
theorem wlen_any (g : Nat) (l : List UInt8) (w : World) (v0 : Value) (hW : OwnW w g v0 l) : Calls Try.prog 29 #[.pointer (some ⟨g, 0, none⟩)] w fun e w' => w' = w ∧ e = .returned (.int .i64 (l.length : Nat)) := by
  obtain ⟨A1, c1, rfl, -⟩ := Own.form hW.2.2.2
  obtain ⟨hc1, hf1, hg1, hown1⟩ := id hW
  go_enter Try.func29, Try.ntmps29
  go_wp2
  go_ret
  exact ⟨rfl, rfl⟩
theorem wbytes_any (g : Nat) (l : List UInt8) (w : World) (v0 : Value) (hW : OwnW w g v0 l) (hl : l.length ≤ 140737488355328) : Calls Try.prog 30 #[.pointer (some ⟨g, 0, none⟩)] w fun e w' => ∃ A' c, e = .returned (.slice A' l.length c) ∧ Own w' w.heap.size (.slice A' l.length c) l ∧ Below w.heap.size w w' := by
  obtain ⟨A1, c1, rfl, hB⟩ := Own.form hW.2.2.2
  obtain ⟨hc1, hf1, hg1, hown1⟩ := id hW
  go_enter Try.func30, Try.ntmps30
  go_wp2_with fail
  refine (clone_any A1 l.length c1 l w hB rfl hl (own_nil hown1)).mono ?_
  rintro e w' ⟨A', c, rfl, ho, _, hb⟩
  have Ho := Lib.hid ho
  clear ho
  go_wp2
  go_ret
  exact ⟨A', c, rfl, Ho.out, hb⟩

/-- The reader at block g: its bytes l, its place, its error. -/
structure OwnR (w : World) (g : Nat) (A : Option Addr) (c : Nat) (l : List UInt8) (at_ : Nat) (e : Int) : Prop where
  c0 : w.cell? ⟨g, 0, none⟩ = some (.slice A l.length c)
  c1 : w.cell? ⟨g, 1, none⟩ = some (.int .i64 at_)
  c2 : w.cell? ⟨g, 2, none⟩ = some (.int .i64 e)
  f1 : w.frozen? ⟨g, 1, none⟩ = false
  f2 : w.frozen? ⟨g, 2, none⟩ = false
  lt : g < w.heap.size
  bytes : Bytes w g A l
  cap : l.length ≤ c ∧ c ≤ 9223372036854775807
  at_le : at_ ≤ l.length
theorem newReader_any (A : Option Addr) (n cap : Nat) (l : List UInt8) (w : World) (hA : Bytes w w.heap.size A l) (hn : l.length = n) (hl : n ≤ 140737488355328) (hcap : A = none → cap = 0) :
    Calls Try.prog 31 #[.slice A n cap] w fun e w' => ∃ g A' c, e = .returned (.pointer (some ⟨g, 0, none⟩)) ∧ w.heap.size ≤ g ∧ OwnR w' g A' c l 0 0 ∧ Below w.heap.size w w' := by
  go_enter Try.func31, Try.ntmps31
  go_wp2_with fail
  refine (clone_any A n cap l w hA hn hl hcap).mono ?_
  rintro e w1 ⟨A', c, rfl, ho, _, hb⟩
  have Ho := Lib.hid ho
  clear ho
  go_wp2
  go_ret
  subst hn
  refine ⟨w1.heap.size, A', c, rfl, hb.size, ⟨?_, ?_, ?_, World.frozen?_alloc_new w1 _ _ 1, World.frozen?_alloc_new w1 _ _ 2, by simp, ?_, ⟨?_, ?_⟩, Nat.zero_le _⟩, na hb _⟩
  · exact cell_of_row _ _ _ _ _ _ (heap_alloc_new w1 _)
  · exact cell_of_row _ _ _ _ _ _ (heap_alloc_new w1 _)
  · exact cell_of_row _ _ _ _ _ _ (heap_alloc_new w1 _)
  · exact Ho.out.bytes.1.below (na (nr w1) _)
  · exact Ho.out.cap
  · exact Ho.out.capm
theorem left_any (g : Nat) (A : Option Addr) (c : Nat) (l : List UInt8) (at_ : Nat) (e : Int) (w : World) (hR : OwnR w g A c l at_ e) (hl : l.length ≤ 140737488355328) : Calls Try.prog 36 #[.pointer (some ⟨g, 0, none⟩)] w fun e w' => w' = w.drew ∧ e = .returned (.int .i64 (l.length - at_ : Nat)) := by
  obtain ⟨c0, c1, c2, f1, f2, lt, hb, hcap, hle⟩ := hR
  go_enter Try.func36, Try.ntmps36
  go_wp2
  go_region
  go_wp2
  go_ret
  exact ⟨rfl, by show Ending.returned (.int .i64 _) = _; congr 2; omega⟩
theorem err_any (g : Nat) (A : Option Addr) (c : Nat) (l : List UInt8) (at_ : Nat) (e : Int) (w : World) (hR : OwnR w g A c l at_ e) : Calls Try.prog 34 #[.pointer (some ⟨g, 0, none⟩)] w fun e' w' => w' = w ∧ e' = .returned (.int .i64 e) := by
  obtain ⟨c0, c1, c2, f1, f2, lt, hb, hcap, hle⟩ := hR
  go_enter Try.func34, Try.ntmps34
  go_wp2
  go_ret
  exact ⟨rfl, rfl⟩
theorem fail_any (g : Nat) (A : Option Addr) (c : Nat) (l : List UInt8) (at_ : Nat) (e k : Int) (w : World) (hR : OwnR w g A c l at_ e) : Calls Try.prog 82 #[.pointer (some ⟨g, 0, none⟩), .int .i64 k] w fun e' w' => e' = .returned (.tuple #[]) ∧ OwnR w' g A c l at_ (if e = 0 then k else e) ∧ Below g w w' ∧ w'.heap.size = w.heap.size ∧ ∀ i, i ≠ g → w'.heap[i]? = w.heap[i]? := by
  obtain ⟨c0, c1, c2, f1, f2, lt, hb, hcap, hle⟩ := id hR
  by_cases he : e = 0
  · subst he
    rw [if_pos rfl]
    go_enter Try.func82, Try.ntmps82
    go_wp2
    refine bodyPost_end (v := .tuple #[]) (by simp [results, Try.results82, go_sem]) rfl ⟨rfl, ⟨?_, ?_, ?_, ?_, ?_, by simpa [World.setCell] using lt, hb.below ((Below.refl g w).setCell (Nat.le_refl _) _), hcap, hle⟩, (Below.refl g w).setCell (Nat.le_refl _) _, by simp [World.setCell], fun i hi => Below.heap_setCell _ _ _ _ hi⟩
    · rw [World.cell?_setCell_other _ _ _ _ (by simp)]; exact c0
    · rw [World.cell?_setCell_other _ _ _ _ (by simp)]; exact c1
    · exact World.cell?_setCell_same _ _ _ c2
    · rw [World.frozen?_setCell]; exact f1
    · rw [World.frozen?_setCell]; exact f2
  · rw [if_neg he]
    have hq : (e == 0) = false := by rw [beq_eq_false_iff_ne]; exact he
    go_enter Try.func82, Try.ntmps82
    go_wp2
    exact bodyPost_end (v := .tuple #[]) (by simp [results, Try.results82, go_sem]) rfl ⟨rfl, hR, Below.refl g w, rfl, fun _ _ => rfl⟩
end Go.Proofs.Ytegpoghgddjmaaa
