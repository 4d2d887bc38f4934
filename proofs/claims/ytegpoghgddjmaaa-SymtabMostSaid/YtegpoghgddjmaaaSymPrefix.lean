/- The walk of symtab's Prefix: the places of the texts that begin with one. -/
import Derived.Test.YtegpoghgddjmaaaSymFind
import Derived.Deep.RegionHeld3
namespace Go.Proofs.Ytegpoghgddjmaaa
open Go.RowKit
set_option maxRecDepth 100000

/-- How many texts begin with one. -/
def beginsN (L : List (List UInt8)) (s : List UInt8) : Nat := L.countP (fun x => beginsS x s)
theorem begins_iff (x s : List UInt8) : beginsS x s = true ↔ s <+: x := by
  unfold beginsS
  rw [Bool.and_eq_true, decide_eq_true_iff, beq_iff_eq]
  constructor
  · rintro ⟨h1, h2⟩
    have h3 := List.take_append_drop s.length x
    rw [h2] at h3
    exact ⟨x.drop s.length, h3⟩
  · rintro ⟨t, rfl⟩
    simp
theorem prefix_ge : ∀ {s x : List UInt8}, s <+: x → ¬ x < s
  | [], x, _, h => by cases h
  | c :: s, x, ⟨t, e⟩, h => by
    subst e
    rw [List.cons_append, List.cons_lt_cons_iff] at h
    rcases h with h | ⟨_, h⟩
    · exact absurd h (by simp)
    · exact prefix_ge ⟨t, rfl⟩ h
theorem prefix_mid : ∀ {s x y : List UInt8}, ¬ x < s → x < y → s <+: y → s <+: x
  | [], x, y, _, _, _ => List.nil_prefix
  | c :: s, [], y, h1, _, _ => absurd (List.nil_lt_cons _ _) h1
  | c :: s, d :: x, y, h1, h2, ⟨t, e⟩ => by
    subst e
    rw [List.cons_append, List.cons_lt_cons_iff] at h2
    rw [List.cons_lt_cons_iff] at h1
    have hdc : d = c := by
      rcases h2 with h2 | ⟨h2, _⟩
      · exact absurd (.inl h2) h1
      · exact h2
    subst hdc
    rcases h2 with h2 | ⟨_, h2⟩
    · exact absurd (.inl h2) h1
    · obtain ⟨u, hu⟩ := prefix_mid (s := s) (fun k => h1 (.inr ⟨rfl, k⟩)) h2 ⟨t, rfl⟩
      exact ⟨u, by rw [← hu]; rfl⟩
theorem mem_txt {L : List (List UInt8)} {x : List UInt8} (h : x ∈ L) : ∃ i, i < L.length ∧ txt L i = x := by
  obtain ⟨i, hi, e⟩ := List.mem_iff_getElem.1 h
  exact ⟨i, hi, by unfold txt; rw [List.getD_eq_getElem?_getD, List.getElem?_eq_getElem hi]; exact e⟩
theorem txt_take {L : List (List UInt8)} {B i : Nat} (h : i < B) : txt (L.take B) i = txt L i := by
  unfold txt
  simp only [List.getD_eq_getElem?_getD]
  rw [List.getElem?_take, if_pos h]
theorem txt_drop (L : List (List UInt8)) (B i : Nat) : txt (L.drop B) i = txt L (B + i) := by
  unfold txt
  simp only [List.getD_eq_getElem?_getD]
  rw [List.getElem?_drop]
/-- Those that begin with one lie side by side, from the first that isn't below. -/
theorem beginsN_run {L : List (List UInt8)} {s : List UInt8} {k : Nat} (hL : L.Pairwise (· < ·)) (hk : belowS L s + k ≤ L.length) (h1 : ∀ t, t < k → beginsS (txt L (belowS L s + t)) s = true) (h2 : ∀ t, k ≤ t → belowS L s + t < L.length → beginsS (txt L (belowS L s + t)) s = false) : beginsN L s = k := by
  obtain ⟨B, hB⟩ : ∃ B, belowS L s = B := ⟨_, rfl⟩
  have hb := fun i hi => below_iff (s := s) hL i hi
  rw [hB] at hk h1 h2
  simp only [hB] at hb
  have e : L = L.take B ++ ((L.drop B).take k ++ L.drop (B + k)) := by rw [← List.drop_drop, List.take_append_drop, List.take_append_drop]
  have a1 : beginsN (L.take B) s = 0 := by
    unfold beginsN
    rw [List.countP_eq_zero]
    intro x hx hc
    obtain ⟨i, hi, rfl⟩ := mem_txt hx
    rw [List.length_take] at hi
    rw [txt_take (by omega)] at hc
    exact prefix_ge ((begins_iff _ _).1 hc) ((hb i (by omega)).2 (by omega))
  have a2 : beginsN ((L.drop B).take k) s = k := by
    have hl : ((L.drop B).take k).length = k := by rw [List.length_take, List.length_drop]; omega
    have : beginsN ((L.drop B).take k) s = ((L.drop B).take k).length := by
      unfold beginsN
      rw [List.countP_eq_length]
      intro x hx
      obtain ⟨i, hi, rfl⟩ := mem_txt hx
      rw [hl] at hi
      rw [txt_take hi, txt_drop]
      exact h1 i hi
    rw [this, hl]
  have a3 : beginsN (L.drop (B + k)) s = 0 := by
    unfold beginsN
    rw [List.countP_eq_zero]
    intro x hx hc
    obtain ⟨i, hi, rfl⟩ := mem_txt hx
    rw [List.length_drop] at hi
    rw [txt_drop, Nat.add_assoc, h2 (k + i) (by omega) (by omega)] at hc
    cases hc
  have : beginsN L s = beginsN (L.take B) s + (beginsN ((L.drop B).take k) s + beginsN (L.drop (B + k)) s) := by
    unfold beginsN
    rw [← List.countP_append, ← List.countP_append, ← e]
  omega
theorem begins_mono {L : List (List UInt8)} {s : List UInt8} (hL : L.Pairwise (· < ·)) {a b : Nat} (hab : a ≤ b) (hb : belowS L s + b < L.length) (h : beginsS (txt L (belowS L s + b)) s = true) : beginsS (txt L (belowS L s + a)) s = true := by
  by_cases e : a = b
  · subst e; exact h
  rw [begins_iff] at h ⊢
  refine prefix_mid (fun k => ?_) ?_ h
  · rw [below_iff hL _ (by omega)] at k
    omega
  · have := List.pairwise_iff_getElem.1 hL (belowS L s + a) (belowS L s + b) (by omega) hb (by omega)
    unfold txt
    simp only [List.getD_eq_getElem?_getD]
    rw [List.getElem?_eq_getElem hb, List.getElem?_eq_getElem (show belowS L s + a < L.length by omega)]
    exact this

theorem setCell_self {w : World} {b k : Nat} {v : Value} (h : w.cell? ⟨b, k, none⟩ = some v) : w.setCell ⟨b, k, none⟩ v = w := by
  unfold World.cell? at h
  unfold World.setCell
  congr 1
  apply Array.ext
  · simp
  · intro i h1 h2
    rw [Array.getElem_modify]
    by_cases e : b = i
    · subst e
      rw [if_pos rfl]
      rw [Array.getElem?_eq_getElem h2] at h
      cases ho : w.heap[b] with
      | cells c t fr =>
        rw [ho] at h
        simp at h
        simp only
        congr 1
        apply Array.ext
        · simp
        · intro j j1 j2
          simp only [Option.isSome_none, Bool.false_eq_true, if_false]
          rw [Array.getElem_setIfInBounds]
          split
          · rename_i hj
            subst hj
            rw [Array.getElem?_eq_getElem j2] at h
            injection h with h
            exact h.symm
          · rfl
      | _ => rfl
    · rw [if_neg e]
def PrefixPost (L : List (List UInt8)) (s : List UInt8) (w : World) (e : Ending) (w' : World) : Prop :=
  e = .returned (.tuple #[.int .i64 (belowS L s : Nat), .int .i64 ((belowS L s + beginsN L s : Nat) : Int)]) ∧ Below w.heap.size w w'
set_option maxHeartbeats 4000000 in
theorem prefix_any (g : Nat) (L : List (List UInt8)) (s : List UInt8) (v : Value) (xs : List Value) (w : World) (hT : Tab w g L v xs) (hl : L.length ≤ 4096) (hL : L.Pairwise (· < ·)) :
    Calls Try.prog 71 #[.pointer (some ⟨g, 0, none⟩), S8 s] w (PrefixPost L s w) := by
  have HT := Lib.hid hT
  have hw := hT.lt
  have hbl := belowS_len L s
  have hB0 : Below w.heap.size w (((w.alloc (.cells #[.pointer (some ⟨g, 0, none⟩)] 81)).alloc (.cells #[S8 s] 9)).alloc (.cells #[.int .i64 0] 3)) := na (na (na (nr w) _) _) _
  have Hbel := Lib.hid (below_any g L s v xs _ (hT.new_ hB0) hl hL)
  have HL := Lib.hid hL
  clear hT hL
  have c2 : (((w.alloc (.cells #[.pointer (some ⟨g, 0, none⟩)] 81)).alloc (.cells #[S8 s] 9)).alloc (.cells #[.int .i64 0] 3)).cell? ⟨w.heap.size + 1 + 1, 0, none⟩ = some (.int .i64 0) := by
    have := cell_of_row _ _ 0 _ _ _ (heap_alloc_new ((w.alloc (.cells #[.pointer (some ⟨g, 0, none⟩)] 81)).alloc (.cells #[S8 s] 9)) (.cells #[.int .i64 0] 3))
    rw [World.size_alloc, World.size_alloc] at this; exact this
  have z2 : (((w.alloc (.cells #[.pointer (some ⟨g, 0, none⟩)] 81)).alloc (.cells #[S8 s] 9)).alloc (.cells #[.int .i64 0] 3)).frozen? ⟨w.heap.size + 1 + 1, 0, none⟩ = false := by
    have := frozen_of_row _ _ 0 _ _ (heap_alloc_new ((w.alloc (.cells #[.pointer (some ⟨g, 0, none⟩)] 81)).alloc (.cells #[S8 s] 9)) (.cells #[.int .i64 0] 3))
    rw [World.size_alloc, World.size_alloc] at this; exact this
  have c1 : (((w.alloc (.cells #[.pointer (some ⟨g, 0, none⟩)] 81)).alloc (.cells #[S8 s] 9)).alloc (.cells #[.int .i64 0] 3)).cell? ⟨w.heap.size + 1, 0, none⟩ = some (S8 s) := by
    have := cell_of_row _ _ 0 _ _ _ (heap_alloc_new (w.alloc (.cells #[.pointer (some ⟨g, 0, none⟩)] 81)) (.cells #[S8 s] 9))
    rw [World.size_alloc] at this
    rw [World.cell?_alloc_lt _ _ _ (by simp)]; exact this
  have c0 : (((w.alloc (.cells #[.pointer (some ⟨g, 0, none⟩)] 81)).alloc (.cells #[S8 s] 9)).alloc (.cells #[.int .i64 0] 3)).cell? ⟨w.heap.size, 0, none⟩ = some (.pointer (some ⟨g, 0, none⟩)) := by
    rw [World.cell?_alloc_lt _ _ _ (by simp; omega), World.cell?_alloc_lt _ _ _ (by simp)]; exact cell_of_row _ _ _ _ _ _ (heap_alloc_new w _)
  have H0 := Lib.hid (And.intro hB0 (And.intro c0 (And.intro c1 (And.intro c2 z2))))
  clear hB0 c0 c1 c2 z2
  go_enter Try.func71, Try.ntmps71
  go_wp2_with fail
  refine Hbel.out.mono ?_
  rintro e w1 ⟨rfl, hb1⟩
  have d2 := (hb1.cell (p := ⟨w.heap.size + 1 + 1, 0, none⟩) (by simp)).trans H0.out.2.2.2.1
  have y2 := (hb1.frozen (p := ⟨w.heap.size + 1 + 1, 0, none⟩) (by simp)).trans H0.out.2.2.2.2
  have hsz := hb1.size
  simp only [World.size_alloc] at hsz
  have hX : Hid (Below w.heap.size w (w1.setCell ⟨w.heap.size + 1 + 1, 0, none⟩ (.int .i64 (belowS L s : Nat))) ∧ (w1.setCell ⟨w.heap.size + 1 + 1, 0, none⟩ (.int .i64 (belowS L s : Nat))).cell? ⟨w.heap.size + 1 + 1, 0, none⟩ = some (.int .i64 (belowS L s : Nat)) ∧ (w1.setCell ⟨w.heap.size + 1 + 1, 0, none⟩ (.int .i64 (belowS L s : Nat))).frozen? ⟨w.heap.size + 1 + 1, 0, none⟩ = false ∧
      (w1.setCell ⟨w.heap.size + 1 + 1, 0, none⟩ (.int .i64 (belowS L s : Nat))).cell? ⟨w.heap.size + 1, 0, none⟩ = some (S8 s) ∧ (w1.setCell ⟨w.heap.size + 1 + 1, 0, none⟩ (.int .i64 (belowS L s : Nat))).cell? ⟨w.heap.size, 0, none⟩ = some (.pointer (some ⟨g, 0, none⟩)) ∧ w.heap.size + 1 + 1 < (w1.setCell ⟨w.heap.size + 1 + 1, 0, none⟩ (.int .i64 (belowS L s : Nat))).heap.size) := by
    refine ⟨?_, World.cell?_setCell_same _ _ _ d2, by rw [World.frozen?_setCell]; exact y2, ?_, ?_, ?_⟩
    · exact (H0.out.1.trans (hb1.mono H0.out.1.size)).setCell (by show w.heap.size ≤ w.heap.size + 1 + 1; omega) _
    · rw [World.cell?_setCell_other _ _ _ _ (by simp)]; exact (hb1.cell (p := ⟨w.heap.size + 1, 0, none⟩) (by simp)).trans H0.out.2.2.1
    · rw [World.cell?_setCell_other _ _ _ _ (by simp)]; exact (hb1.cell (p := ⟨w.heap.size, 0, none⟩) (by simp; omega)).trans H0.out.2.1
    · simp [World.setCell]; exact hsz
  clear hb1 H0 Hbel
  go_wp2_with fail
  clear d2 y2 hsz
  generalize w1.setCell ⟨w.heap.size + 1 + 1, 0, none⟩ (.int .i64 (belowS L s : Nat)) = W2 at *
  generalize hbs : w.heap.size + 1 = bs at *
  generalize hbf : bs + 1 = bf at *
  generalize hbt : w.heap.size = bt at *
  have hB := Lib.hid (And.intro hX.out.1 (And.intro hbs (And.intro hbf hbt)))
  have hbtl : bt < W2.heap.size := by have := hX.out.2.2.2.2.2; omega
  have hbsl : bs < W2.heap.size := by have := hX.out.2.2.2.2.2; omega
  have HBt := Lib.hid hbt
  clear hB hbs hbf hbt
  have HT2 := Lib.hid (HT.out.new_ (w' := W2) (by rw [HBt.out]; exact hX.out.1))
  have eg : ∀ args W, (callFunc 93 args).run Try.prog W = .ok (.enter 93 args) W := enters_of Try.func93 (by kernel_rfl) rfl
  have hlt := hX.out.2.2.2.2.2
  have hS := fun (W : World) (hW : Below W2.heap.size W2 W) => search_any 93 #[.pointer (some ⟨bt, 0, none⟩), .pointer (some ⟨bf, 0, none⟩), .pointer (some ⟨bs, 0, none⟩)] (L.length - belowS L s) (fun i => !beginsS (txt L (belowS L s + i)) s) W eg (by omega)
    (fun W' i hW' hi => prefixc_any bt bf bs g (belowS L s) i L s v xs W' (((nt hW hW').cell (p := ⟨bt, 0, none⟩) hbtl).trans hX.out.2.2.2.2.1) (((nt hW hW').cell (p := ⟨bf, 0, none⟩) hlt).trans hX.out.2.1) (((nt hW hW').cell (p := ⟨bs, 0, none⟩) hbsl).trans hX.out.2.2.2.1) (Nat.lt_of_lt_of_le hbsl (nt hW hW').size) (HT2.out.new_ (nt hW hW')) (by omega) hl)
    (fun a b hab hb h => by
      cases hb' : beginsS (txt L (belowS L s + b)) s with
      | false => rfl
      | true => rw [begins_mono HL.out hab (by omega) hb'] at h; cases h)
  rw [show ((L.length - belowS L s : Nat) : Int) = (L.length : Int) - (belowS L s : Int) by omega] at hS
  have HS := Lib.hid hS
  clear hS eg
  have HF := Lib.hid (fun k h1 h2 h3 => beginsN_run (s := s) (k := k) HL.out h1 h2 h3)
  have hwr : IntKind.i64.wrap ((L.length : Int) - (belowS L s : Int)) = (L.length : Int) - (belowS L s : Int) := IntWalk.i64_in _ (by omega)
  have m0 := hX.out.2.1
  have m1 := hX.out.2.2.2.2.1
  have m2 := HT2.out.c0
  have m3 := hX.out.2.2.1
  go_region_held3 (fun w' => w'.cell? ⟨bf, 0, none⟩ = some (.int .i64 (belowS L s : Nat)) ∧ w'.cell? ⟨bt, 0, none⟩ = some (.pointer (some ⟨g, 0, none⟩)) ∧ w'.cell? ⟨g, 0, none⟩ = some (.int .i64 (L.length : Nat))) (first | exact ⟨m0, m1, m2⟩ | (rw [hself]; exact ⟨m0, m1, m2⟩))
    (first
      | (go_at_call 91; refine (HS.out _ (nd (nr W2))).mono ?_; rintro e wS ⟨k, rfl, hkn, hlo, hhi, hbS⟩
         have m0 := (hbS.cell (p := ⟨bf, 0, none⟩) hlt).trans m0
         have m1 := (hbS.cell (p := ⟨bt, 0, none⟩) hbtl).trans m1
         have m2 := (hbS.cell (p := ⟨g, 0, none⟩) HT2.out.lt).trans m2
         have m3 := (hbS.frozen (p := ⟨bf, 0, none⟩) hlt).trans m3
         have hwr2 : IntKind.i64.wrap ((belowS L s : Int) + (k : Int)) = (belowS L s : Int) + (k : Int) := IntWalk.i64_in _ (by omega)
         have hself := setCell_self m0
         have HK := Lib.hid (And.intro hlo (And.intro hhi hbS))
         clear hlo hhi hbS))
  have hn := Lib.hid (HF.out k (by omega) (fun t ht => by have := HK.out.1 t ht; simpa using this) (fun t ht ht2 => by have := HK.out.2.1 t ht (by omega); simpa using this))
  clear hself
  go_wp2_with fail
  refine bodyPost_ret (v := .tuple #[.int .i64 (belowS L s : Nat), .int .i64 ((belowS L s : Int) + (k : Int))]) (by simp [results, Try.results71, go_sem, m0]) rfl ⟨?_, ?_⟩
  · rw [hn.out, show ((belowS L s + k : Nat) : Int) = (belowS L s : Int) + (k : Int) by omega]
  · have h1 := hX.out.1
    rw [← HBt.out] at h1
    exact (nd h1).trans (HK.out.2.2.mono h1.size)
end Go.Proofs.Ytegpoghgddjmaaa
