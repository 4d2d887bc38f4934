/- The plain law of a table of texts: its bytes, what any bytes are; each is the other's. -/
import Derived.Test.YtegpoghgddjmaaaSymD
import Derived.Test.YtegpoghgddjmaaaNumPlain
import Derived.Test.YtegpoghgddjmaaaWriter2
import Derived.Sort.Walk0
namespace Go.Proofs.Ytegpoghgddjmaaa
open Go.RowKit
set_option maxRecDepth 100000

/-- A text's bytes: how many it shares, then the rest. -/
def entryS (n : Nat) (s : List UInt8) : List UInt8 := num n ++ (num (s.drop n).length ++ s.drop n)
def bodyS : Nat → List UInt8 → List (List UInt8) → List UInt8
  | _, _, [] => []
  | i, a, s :: r => entryS (sharedS i a s) s ++ bodyS (i + 1) s r
def errS : Nat → List UInt8 → List (List UInt8) → Int
  | _, _, [] => 0
  | i, a, s :: r => if followsS i a s = 0 then errS (i + 1) s r else followsS i a s
def buildE (L : List (List UInt8)) : Int := if 4096 < L.length then 4 else errS 0 [] L
def buildB (L : List (List UInt8)) : List UInt8 := num L.length ++ bodyS 0 [] L
def buildR (L : List (List UInt8)) : List UInt8 := if buildE L = 0 then buildB L else []

/-- What the next text is: the error, the text, the place behind it. -/
def oneS (l : List UInt8) (at_ i : Nat) (a : List UInt8) : Int × List UInt8 × Nat :=
  if (getNum (l.drop at_)).2.2 ≠ 0 then ((getNum (l.drop at_)).2.2, [], 0)
  else if 400 < (getNum (l.drop at_)).1 then (4, [], 0)
  else if (getNum (l.drop (at_ + (getNum (l.drop at_)).2.1))).2.2 ≠ 0 then ((getNum (l.drop (at_ + (getNum (l.drop at_)).2.1))).2.2, [], 0)
  else if 400 < (getNum (l.drop (at_ + (getNum (l.drop at_)).2.1))).1 then (4, [], 0)
  else if l.length - (at_ + (getNum (l.drop at_)).2.1 + (getNum (l.drop (at_ + (getNum (l.drop at_)).2.1))).2.1) < (getNum (l.drop (at_ + (getNum (l.drop at_)).2.1))).1 then (2, [], 0)
  else if a.length < (getNum (l.drop at_)).1 then (3, [], 0)
  else if followsS i a (a.take (getNum (l.drop at_)).1 ++ (l.drop (at_ + (getNum (l.drop at_)).2.1 + (getNum (l.drop (at_ + (getNum (l.drop at_)).2.1))).2.1)).take (getNum (l.drop (at_ + (getNum (l.drop at_)).2.1))).1) ≠ 0
    then (followsS i a (a.take (getNum (l.drop at_)).1 ++ (l.drop (at_ + (getNum (l.drop at_)).2.1 + (getNum (l.drop (at_ + (getNum (l.drop at_)).2.1))).2.1)).take (getNum (l.drop (at_ + (getNum (l.drop at_)).2.1))).1), [], 0)
  else if (getNum (l.drop at_)).1 ≠ sharedS i a (a.take (getNum (l.drop at_)).1 ++ (l.drop (at_ + (getNum (l.drop at_)).2.1 + (getNum (l.drop (at_ + (getNum (l.drop at_)).2.1))).2.1)).take (getNum (l.drop (at_ + (getNum (l.drop at_)).2.1))).1) then (3, [], 0)
  else (0, a.take (getNum (l.drop at_)).1 ++ (l.drop (at_ + (getNum (l.drop at_)).2.1 + (getNum (l.drop (at_ + (getNum (l.drop at_)).2.1))).2.1)).take (getNum (l.drop (at_ + (getNum (l.drop at_)).2.1))).1,
    at_ + (getNum (l.drop at_)).2.1 + (getNum (l.drop (at_ + (getNum (l.drop at_)).2.1))).2.1 + (getNum (l.drop (at_ + (getNum (l.drop at_)).2.1))).1)

section
variable {l : List UInt8} {at_ i V N V2 N2 : Nat} {a s : List UInt8} {E E2 : Int}
theorem oneS_1 (h : getNum (l.drop at_) = (V, N, E)) (hE : E ≠ 0) : oneS l at_ i a = (E, [], 0) := by
  unfold oneS; rw [h]; simp only []; rw [if_pos hE]
theorem oneS_2 (h : getNum (l.drop at_) = (V, N, 0)) (hV : 400 < V) : oneS l at_ i a = (4, [], 0) := by
  unfold oneS; rw [h]; simp only []; rw [if_neg (by simp), if_pos hV]
theorem oneS_3 (h : getNum (l.drop at_) = (V, N, 0)) (hV : ¬ 400 < V) (h2 : getNum (l.drop (at_ + N)) = (V2, N2, E2)) (hE : E2 ≠ 0) : oneS l at_ i a = (E2, [], 0) := by
  unfold oneS; rw [h]; simp only []; rw [h2]; simp only []; rw [if_neg (by simp), if_neg hV, if_pos hE]
theorem oneS_4 (h : getNum (l.drop at_) = (V, N, 0)) (hV : ¬ 400 < V) (h2 : getNum (l.drop (at_ + N)) = (V2, N2, 0)) (hV2 : 400 < V2) : oneS l at_ i a = (4, [], 0) := by
  unfold oneS; rw [h]; simp only []; rw [h2]; simp only []; rw [if_neg (by simp), if_neg hV, if_neg (by simp), if_pos hV2]
theorem oneS_5 (h : getNum (l.drop at_) = (V, N, 0)) (hV : ¬ 400 < V) (h2 : getNum (l.drop (at_ + N)) = (V2, N2, 0)) (hV2 : ¬ 400 < V2) (hs : l.length - (at_ + N + N2) < V2) : oneS l at_ i a = (2, [], 0) := by
  unfold oneS; rw [h]; simp only []; rw [h2]; simp only []; rw [if_neg (by simp), if_neg hV, if_neg (by simp), if_neg hV2, if_pos hs]
theorem oneS_6 (h : getNum (l.drop at_) = (V, N, 0)) (hV : ¬ 400 < V) (h2 : getNum (l.drop (at_ + N)) = (V2, N2, 0)) (hV2 : ¬ 400 < V2) (hs : ¬ l.length - (at_ + N + N2) < V2) (ha : a.length < V) : oneS l at_ i a = (3, [], 0) := by
  unfold oneS; rw [h]; simp only []; rw [h2]; simp only []; rw [if_neg (by simp), if_neg hV, if_neg (by simp), if_neg hV2, if_neg hs, if_pos ha]
theorem oneS_7 (h : getNum (l.drop at_) = (V, N, 0)) (hV : ¬ 400 < V) (h2 : getNum (l.drop (at_ + N)) = (V2, N2, 0)) (hV2 : ¬ 400 < V2) (hs : ¬ l.length - (at_ + N + N2) < V2) (ha : ¬ a.length < V)
    (ht : a.take V ++ (l.drop (at_ + N + N2)).take V2 = s) (hf : followsS i a s ≠ 0) : oneS l at_ i a = (followsS i a s, [], 0) := by
  subst ht
  unfold oneS; rw [h]; simp only []; rw [h2]; simp only []; rw [if_neg (by simp), if_neg hV, if_neg (by simp), if_neg hV2, if_neg hs, if_neg ha, if_pos hf]
theorem oneS_8 (h : getNum (l.drop at_) = (V, N, 0)) (hV : ¬ 400 < V) (h2 : getNum (l.drop (at_ + N)) = (V2, N2, 0)) (hV2 : ¬ 400 < V2) (hs : ¬ l.length - (at_ + N + N2) < V2) (ha : ¬ a.length < V)
    (ht : a.take V ++ (l.drop (at_ + N + N2)).take V2 = s) (hf : followsS i a s = 0) (hn : V ≠ sharedS i a s) : oneS l at_ i a = (3, [], 0) := by
  subst ht
  unfold oneS; rw [h]; simp only []; rw [h2]; simp only []; rw [if_neg (by simp), if_neg hV, if_neg (by simp), if_neg hV2, if_neg hs, if_neg ha, if_neg (by simpa using hf), if_pos hn]
theorem oneS_9 (h : getNum (l.drop at_) = (V, N, 0)) (hV : ¬ 400 < V) (h2 : getNum (l.drop (at_ + N)) = (V2, N2, 0)) (hV2 : ¬ 400 < V2) (hs : ¬ l.length - (at_ + N + N2) < V2) (ha : ¬ a.length < V)
    (ht : a.take V ++ (l.drop (at_ + N + N2)).take V2 = s) (hf : followsS i a s = 0) (hn : V = sharedS i a s) : oneS l at_ i a = (0, s, at_ + N + N2 + V2) := by
  subst ht
  unfold oneS; rw [h]; simp only []; rw [h2]; simp only []; rw [if_neg (by simp), if_neg hV, if_neg (by simp), if_neg hV2, if_neg hs, if_neg ha, if_neg (by simpa using hf), if_neg (by simpa using hn)]
end

/-- The texts from a place on: the error, the texts. -/
def moreS (l : List UInt8) : Nat → Nat → Nat → List UInt8 → Int × List (List UInt8)
  | 0, at_, _, _ => (if at_ < l.length then 3 else 0, [])
  | c + 1, at_, i, a => if (oneS l at_ i a).1 = 0 then ((moreS l c (oneS l at_ i a).2.2 (i + 1) (oneS l at_ i a).2.1).1, (oneS l at_ i a).2.1 :: (moreS l c (oneS l at_ i a).2.2 (i + 1) (oneS l at_ i a).2.1).2) else ((oneS l at_ i a).1, [])
def openS (l : List UInt8) : Int × List (List UInt8) :=
  if (getNum l).2.2 ≠ 0 then ((getNum l).2.2, []) else if 4096 < (getNum l).1 then (4, []) else moreS l (getNum l).1 (getNum l).2.1 0 []
theorem moreS_no {l : List UInt8} {c at_ i at2 : Nat} {a s : List UInt8} {e : Int} (h : oneS l at_ i a = (e, s, at2)) (he : e ≠ 0) : (moreS l (c + 1) at_ i a) = (e, []) := by
  unfold moreS; rw [h]; simp only []; rw [if_neg he]
theorem moreS_yes {l : List UInt8} {c at_ i at2 : Nat} {a s : List UInt8} (h : oneS l at_ i a = (0, s, at2)) : (moreS l (c + 1) at_ i a) = ((moreS l c at2 (i + 1) s).1, s :: (moreS l c at2 (i + 1) s).2) := by
  rw [moreS, h]; rfl

/-! ### What two texts share -/
theorem alikeS_take : ∀ (a s : List UInt8) (k : Nat), k ≤ alikeS a s → a.take k = s.take k
  | [], _, k, h => by simp [alikeS] at h; subst h; simp
  | _ :: _, [], k, h => by simp [alikeS] at h; subst h; simp
  | x :: a, y :: s, k, h => by
    unfold alikeS at h
    by_cases e : x = y
    · rw [if_pos e] at h
      cases k with
      | zero => simp
      | succ k => rw [List.take_succ_cons, List.take_succ_cons, e, alikeS_take a s k (by omega)]
    · rw [if_neg e] at h
      have : k = 0 := by omega
      subst this; simp
theorem sharedS_le (i : Nat) (a s : List UInt8) : sharedS i a s ≤ a.length ∧ sharedS i a s ≤ s.length := by
  have := alikeS_le a s
  unfold sharedS
  split <;> omega
theorem sharedS_back (i : Nat) (a s : List UInt8) : a.take (sharedS i a s) ++ s.drop (sharedS i a s) = s := by
  have h : a.take (sharedS i a s) = s.take (sharedS i a s) := by
    unfold sharedS
    split
    · simp
    · exact alikeS_take a s _ (Nat.le_refl _)
  rw [h, List.take_append_drop]
theorem followsS_len {i : Nat} {a s : List UInt8} (h : followsS i a s = 0) : s.length ≤ 400 := by
  unfold followsS at h
  by_cases h4 : 400 < s.length
  · rw [if_pos h4] at h; cases h
  · omega
theorem followsS_less {i : Nat} {a s : List UInt8} (h : followsS i a s = 0) (hi : 0 < i) : a < s := by
  unfold followsS at h
  by_cases h4 : 400 < s.length
  · rw [if_pos h4] at h; cases h
  rw [if_neg h4] at h
  by_cases h9 : (0 : Int) < i ∧ (Op.bytesLess s a || s == a) = true
  · rw [if_pos h9] at h; cases h
  · have hi' : (0 : Int) < i := by omega
    have hn : ¬ (Op.bytesLess s a || s == a) = true := fun k => h9 ⟨hi', k⟩
    rw [bytesLess_eq, Bool.or_eq_true, decide_eq_true_iff, beq_iff_eq] at hn
    have h1 : ¬ s < a := fun k => hn (.inl k)
    have h2 : s ≠ a := fun k => hn (.inr k)
    exact Std.lt_of_le_of_ne (Std.not_lt.1 h1) (fun k => h2 k.symm)

/-! ### What was built is opened as it was -/
theorem getNum_at {l r : List UInt8} {at_ v : Nat} (h : l.drop at_ = num v ++ r) (hv : v < 18446744073709551616) : getNum (l.drop at_) = (v, (num v).length, 0) ∧ l.drop (at_ + (num v).length) = r := by
  refine ⟨by rw [h]; exact getNum_of_num v hv r, ?_⟩
  rw [← List.drop_drop, h, List.drop_left]
theorem oneS_built {l R : List UInt8} {at_ i : Nat} {a s : List UInt8} (h : l.drop at_ = entryS (sharedS i a s) s ++ R) (hf : followsS i a s = 0) :
    oneS l at_ i a = (0, s, at_ + (entryS (sharedS i a s) s).length) ∧ l.drop (at_ + (entryS (sharedS i a s) s).length) = R := by
  have hl := followsS_len hf
  have hs := sharedS_le i a s
  have hb := sharedS_back i a s
  have hR : l.drop (at_ + (entryS (sharedS i a s) s).length) = R := by rw [← List.drop_drop, h, List.drop_left]
  have he : (entryS (sharedS i a s) s).length = (num (sharedS i a s)).length + ((num (s.drop (sharedS i a s)).length).length + (s.drop (sharedS i a s)).length) := by unfold entryS; rw [List.length_append, List.length_append]
  generalize hn : sharedS i a s = n at *
  have hd : (s.drop n).length = s.length - n := List.length_drop
  unfold entryS at h
  rw [List.append_assoc, List.append_assoc] at h
  obtain ⟨g1, d1⟩ := getNum_at h (by omega)
  obtain ⟨g2, d2⟩ := getNum_at d1 (by omega)
  have hlen : l.length - (at_ + (num n).length + (num (s.drop n).length).length) = (s.drop n).length + R.length := by
    have := congrArg List.length d2
    rw [List.length_drop, List.length_append] at this
    exact this
  refine ⟨?_, hR⟩
  rw [oneS_9 g1 (by omega) g2 (by omega) (by omega) (by omega) (s := s) (by rw [d2, List.take_left]; exact hb) hf hn.symm, he]
  simp only [Nat.add_assoc]
theorem moreS_built {l : List UInt8} : ∀ (r : List (List UInt8)) (at_ i : Nat) (a : List UInt8), l.drop at_ = bodyS i a r → errS i a r = 0 → moreS l r.length at_ i a = (0, r)
  | [], at_, i, a, h, _ => by
    unfold moreS
    have : l.length ≤ at_ := by
      have := congrArg List.length h
      rw [List.length_drop] at this
      simp [bodyS] at this
      omega
    simp only [List.length_nil]
    rw [if_neg (by omega)]
  | s :: r, at_, i, a, h, he => by
    unfold errS at he
    by_cases hf : followsS i a s = 0
    · rw [if_pos hf] at he
      obtain ⟨h1, h2⟩ := oneS_built (R := bodyS (i + 1) s r) h hf
      rw [List.length_cons, moreS_yes h1, moreS_built r _ _ _ h2 he]
    · rw [if_neg hf] at he; exact absurd he hf
theorem open_built {L : List (List UInt8)} (h : buildE L = 0) : openS (buildB L) = (0, L) := by
  unfold buildE at h
  by_cases hl : 4096 < L.length
  · rw [if_pos hl] at h; cases h
  rw [if_neg hl] at h
  have hg := getNum_of_num L.length (by omega) (bodyS 0 [] L)
  unfold openS buildB
  rw [hg]
  simp only []
  rw [if_neg (by simp), if_neg hl]
  exact moreS_built L _ _ _ (by rw [List.drop_left]) h

/-! ### What was opened is built as it was -/
theorem oneS_back {l : List UInt8} {at_ i at2 : Nat} {a s : List UInt8} (h : oneS l at_ i a = (0, s, at2)) (ha : at_ ≤ l.length) :
    followsS i a s = 0 ∧ l.drop at_ = entryS (sharedS i a s) s ++ l.drop at2 ∧ at2 ≤ l.length := by
  obtain ⟨V, N, E, hg⟩ : ∃ V N E, getNum (l.drop at_) = (V, N, E) := ⟨_, _, _, rfl⟩
  by_cases hE : E ≠ 0
  · rw [oneS_1 hg hE] at h; injection h with h; exact absurd h hE
  obtain rfl : E = 0 := Decidable.of_not_not hE
  by_cases hV : 400 < V
  · rw [oneS_2 hg hV] at h; injection h with h; cases h
  obtain ⟨V2, N2, E2, hg2⟩ : ∃ V2 N2 E2, getNum (l.drop (at_ + N)) = (V2, N2, E2) := ⟨_, _, _, rfl⟩
  by_cases hE2 : E2 ≠ 0
  · rw [oneS_3 hg hV hg2 hE2] at h; injection h with h; exact absurd h hE2
  obtain rfl : E2 = 0 := Decidable.of_not_not hE2
  by_cases hV2 : 400 < V2
  · rw [oneS_4 hg hV hg2 hV2] at h; injection h with h; cases h
  by_cases hs : l.length - (at_ + N + N2) < V2
  · rw [oneS_5 hg hV hg2 hV2 hs] at h; injection h with h; cases h
  by_cases hal : a.length < V
  · rw [oneS_6 hg hV hg2 hV2 hs hal] at h; injection h with h; cases h
  obtain ⟨t, ht⟩ : ∃ t, a.take V ++ (l.drop (at_ + N + N2)).take V2 = t := ⟨_, rfl⟩
  by_cases hf : followsS i a t ≠ 0
  · rw [oneS_7 hg hV hg2 hV2 hs hal ht hf] at h; injection h with h; exact absurd h hf
  have hf : followsS i a t = 0 := Decidable.of_not_not hf
  by_cases hn : V ≠ sharedS i a t
  · rw [oneS_8 hg hV hg2 hV2 hs hal ht hf hn] at h; injection h with h; cases h
  have hn : V = sharedS i a t := Decidable.of_not_not hn
  rw [oneS_9 hg hV hg2 hV2 hs hal ht hf hn] at h
  injection h with _ h
  injection h with h1 h2
  subst h1 h2
  obtain ⟨k1, k2, _⟩ := getNum_num hg
  obtain ⟨k3, k4, _⟩ := getNum_num hg2
  rw [List.length_drop] at k1 k3
  have e1 : l.drop at_ = num V ++ l.drop (at_ + N) := by rw [k2, ← List.drop_drop (i := N) (j := at_), List.take_append_drop]
  have e2 : l.drop (at_ + N) = num V2 ++ l.drop (at_ + N + N2) := by rw [k4, ← List.drop_drop (i := N2) (j := at_ + N), List.take_append_drop]
  have e3 : l.drop (at_ + N + N2) = (l.drop (at_ + N + N2)).take V2 ++ l.drop (at_ + N + N2 + V2) := by rw [← List.drop_drop (i := V2) (j := at_ + N + N2), List.take_append_drop]
  have ed : t.drop V = (l.drop (at_ + N + N2)).take V2 := by
    rw [← ht, List.drop_append_of_le_length (by rw [List.length_take]; omega), List.drop_eq_nil_of_le (by rw [List.length_take]; omega), List.nil_append]
  have el : ((l.drop (at_ + N + N2)).take V2).length = V2 := by rw [List.length_take, List.length_drop]; omega
  refine ⟨hf, ?_, by omega⟩
  rw [← hn]
  unfold entryS
  rw [ed, el, List.append_assoc, List.append_assoc, ← e3, ← e2, ← e1]
theorem moreS_back {l : List UInt8} : ∀ (c at_ i : Nat) (a : List UInt8) (r : List (List UInt8)), moreS l c at_ i a = (0, r) → at_ ≤ l.length → r.length = c ∧ errS i a r = 0 ∧ l.drop at_ = bodyS i a r
  | 0, at_, i, a, r, h, ha => by
    unfold moreS at h
    injection h with h1 h2
    subst h2
    by_cases hl : at_ < l.length
    · rw [if_pos hl] at h1; cases h1
    · exact ⟨rfl, rfl, List.drop_eq_nil_of_le (by omega)⟩
  | c + 1, at_, i, a, r, h, ha => by
    obtain ⟨e, s, at2, ho⟩ : ∃ e s at2, oneS l at_ i a = (e, s, at2) := ⟨_, _, _, rfl⟩
    by_cases he : e = 0
    · subst he
      rw [moreS_yes ho] at h
      injection h with h1 h2
      obtain ⟨k1, k2, k3⟩ := oneS_back ho ha
      obtain ⟨m1, m2, m3⟩ := moreS_back c at2 (i + 1) s _ (by rw [← h1]) k3
      subst h2
      refine ⟨by rw [List.length_cons, m1], ?_, ?_⟩
      · unfold errS; rw [if_pos k1]; exact m2
      · unfold bodyS; rw [k2, m3]
    · rw [moreS_no ho he] at h
      injection h with h; exact absurd h he
theorem build_opened {l : List UInt8} {L : List (List UInt8)} (h : openS l = (0, L)) : buildE L = 0 ∧ buildB L = l := by
  unfold openS at h
  obtain ⟨V, N, E, hg⟩ : ∃ V N E, getNum l = (V, N, E) := ⟨_, _, _, rfl⟩
  rw [hg] at h
  simp only [] at h
  by_cases hE : E ≠ 0
  · rw [if_pos hE] at h; injection h with h; exact absurd h hE
  obtain rfl : E = 0 := Decidable.of_not_not hE
  rw [if_neg hE] at h
  by_cases hV : 4096 < V
  · rw [if_pos hV] at h; injection h with h; cases h
  rw [if_neg hV] at h
  obtain ⟨k1, k2, _⟩ := getNum_num hg
  obtain ⟨m1, m2, m3⟩ := moreS_back V N 0 [] L h k1
  refine ⟨?_, ?_⟩
  · unfold buildE; rw [if_neg (by omega)]; exact m2
  · unfold buildB; rw [m1, ← m3, k2, List.take_append_drop]

/-! ### What is built is in order -/
theorem errS_order : ∀ (r : List (List UInt8)) (i : Nat) (a : List UInt8), errS i a r = 0 → (0 < i → ∀ x ∈ r, a < x) ∧ r.Pairwise (· < ·) ∧ ∀ x ∈ r, x.length ≤ 400
  | [], _, _, _ => ⟨fun _ x h => (by cases h), .nil, fun x h => (by cases h)⟩
  | s :: r, i, a, h => by
    unfold errS at h
    by_cases hf : followsS i a s = 0
    · rw [if_pos hf] at h
      obtain ⟨h1, h2, h3⟩ := errS_order r (i + 1) s h
      have h1 := h1 (by omega)
      refine ⟨fun hi x hx => ?_, List.pairwise_cons.2 ⟨h1, h2⟩, fun x hx => ?_⟩
      · have hs := followsS_less hf hi
        rcases List.mem_cons.1 hx with rfl | hx
        · exact hs
        · exact List.lt_trans hs (h1 x hx)
      · rcases List.mem_cons.1 hx with rfl | hx
        · exact followsS_len hf
        · exact h3 x hx
    · rw [if_neg hf] at h; exact absurd h hf
theorem build_order {L : List (List UInt8)} (h : buildE L = 0) : L.Pairwise (· < ·) ∧ (∀ x ∈ L, x.length ≤ 400) ∧ L.length ≤ 4096 := by
  unfold buildE at h
  by_cases hl : 4096 < L.length
  · rw [if_pos hl] at h; cases h
  rw [if_neg hl] at h
  obtain ⟨_, h2, h3⟩ := errS_order L 0 [] h
  exact ⟨h2, h3, by omega⟩
end Go.Proofs.Ytegpoghgddjmaaa
