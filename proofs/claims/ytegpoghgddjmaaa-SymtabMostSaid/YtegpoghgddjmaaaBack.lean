/- What is put down is read as it was: the plain law; the reader beside other memory. -/
import Derived.Test.YtegpoghgddjmaaaReader3
import Derived.Test.YtegpoghgddjmaaaTwo
namespace Go.Proofs.Ytegpoghgddjmaaa
open Go.RowKit
set_option maxRecDepth 100000

theorem zag_zig2 (a : Int) : zag (zig a) = a := by
  unfold zig
  split
  · unfold zag; rw [if_pos (by omega)]; omega
  · unfold zag; rw [if_neg (by omega)]; omega
theorem read_num {l R : List UInt8} {at_ v : Nat} (h : l.drop at_ = num v ++ R) (hv : v < 18446744073709551616) : numS l at_ 0 = (v, at_ + (num v).length, 0) := by
  unfold numS
  rw [if_pos rfl, h, getNum_of_num v hv R]
theorem read_raw {l R s : List UInt8} {at_ : Nat} (h : l.drop at_ = s ++ R) : rawS l at_ 0 (s.length : Nat) = (s, at_ + s.length, 0) := by
  have hl : l.length - at_ = s.length + R.length := by rw [← List.length_drop, h, List.length_append]
  unfold rawS
  rw [if_neg (by simp), if_neg (by omega), if_neg (by omega), h]
  simp
theorem read_fix {l R : List UInt8} {at_ v : Nat} (h : l.drop at_ = leb v 8 ++ R) : rawS l at_ 0 8 = (leb v 8, at_ + (leb v 8).length, 0) := by
  have := read_raw h
  rw [leb_length] at this ⊢
  exact this
theorem read_text {l R s : List UInt8} {at_ : Nat} (h : l.drop at_ = num s.length ++ s ++ R) (hs : s.length ≤ 300) : textS l at_ 0 300 = (s, at_ + (num s.length ++ s).length, 0) := by
  have hn := read_num (l := l) (at_ := at_) (v := s.length) (R := s ++ R) (by rw [h, List.append_assoc]) (by omega)
  have hc : countS l at_ 0 300 = (s.length, at_ + (num s.length).length, 0) := by
    unfold countS
    rw [hn, if_neg (by simp only [true_and]; omega)]
  have hd : l.drop (at_ + (num s.length).length) = s ++ R := by
    rw [← List.drop_drop, h, List.append_assoc, List.drop_left]
  have hr := read_raw hd
  unfold textS
  rw [hc]
  simp only
  rw [hr]
  simp only [List.length_append, Nat.add_assoc]
  simp
theorem forms_drop (L : List Wd) (k : Nat) : (forms L).drop (forms (L.take k)).length = forms (L.drop k) := by
  have h : forms L = forms (L.take k) ++ forms (L.drop k) := by
    unfold forms
    rw [← List.flatMap_append, List.take_append_drop]
  rw [h, List.drop_left]
theorem forms_next (L : List Wd) (k : Nat) (x : Wd) (h : L[k]? = some x) : forms (L.drop k) = form1 x ++ forms (L.drop (k + 1)) := by
  have hlt := (List.getElem?_eq_some_iff.1 h).1
  have e : L[k] = x := (List.getElem?_eq_some_iff.1 h).2
  rw [List.drop_eq_getElem_cons hlt, e]
  rfl

theorem OwnR.same {w w' : World} {g : Nat} {A : Option Addr} {c : Nat} {l : List UInt8} {at_ : Nat} {e : Int} (h : OwnR w g A c l at_ e) (hg : w'.heap[g]? = w.heap[g]?) (hA : ∀ b off, A = some ⟨b, off, none⟩ → w'.heap[b]? = w.heap[b]?) (hs : w.heap.size ≤ w'.heap.size) : OwnR w' g A c l at_ e :=
  ⟨(World.cell?_of_block hg).trans h.c0, (World.cell?_of_block hg).trans h.c1, (World.cell?_of_block hg).trans h.c2, (World.frozen?_of_block hg).trans h.f1, (World.frozen?_of_block hg).trans h.f2, Nat.lt_of_lt_of_le h.lt hs,
   fun hn => by
     obtain ⟨b, off, e, hb, hc⟩ := h.bytes hn
     exact ⟨b, off, e, hb, fun j x hx => (World.cell?_of_block (hA b off e)).trans (hc j x hx)⟩, h.cap, h.at_le⟩
theorem newReader_far (A : Option Addr) (n cap : Nat) (l : List UInt8) (w : World) (hA : Bytes w w.heap.size A l) (hn : l.length = n) (hl : n ≤ 140737488355328) (hcap : A = none → cap = 0) :
    Calls Try.prog 31 #[.slice A n cap] w fun e w' => ∃ g A' c, e = .returned (.pointer (some ⟨g, 0, none⟩)) ∧ w.heap.size ≤ g ∧ OwnR w' g A' c l 0 0 ∧ Below w.heap.size w w' ∧ (0 < l.length → ∃ b, A' = some ⟨b, 0, none⟩ ∧ w.heap.size ≤ b) := by
  go_enter Try.func31, Try.ntmps31
  go_wp2_with fail
  refine (clone_any A n cap l w hA hn hl hcap).mono ?_
  rintro e w1 ⟨A', c, rfl, ho, _, hb⟩
  have Ho := Lib.hid ho
  clear ho
  go_wp2
  go_ret
  subst hn
  refine ⟨w1.heap.size, A', c, rfl, hb.size, ⟨?_, ?_, ?_, World.frozen?_alloc_new w1 _ _ 1, World.frozen?_alloc_new w1 _ _ 2, by simp, ?_, ⟨?_, ?_⟩, Nat.zero_le _⟩, na hb _, fun hp => ?_⟩
  · exact cell_of_row _ _ _ _ _ _ (heap_alloc_new w1 _)
  · exact cell_of_row _ _ _ _ _ _ (heap_alloc_new w1 _)
  · exact cell_of_row _ _ _ _ _ _ (heap_alloc_new w1 _)
  · exact Ho.out.bytes.1.below (na (nr w1) _)
  · exact Ho.out.cap
  · exact Ho.out.capm
  · obtain ⟨q, e, hq, _⟩ := Ho.out.some_ hp
    exact ⟨q, e, hq⟩
end Go.Proofs.Ytegpoghgddjmaaa
