/- The walk of symtab.Open: the table that any bytes are. -/
import Derived.Test.YtegpoghgddjmaaaSymText
import Derived.Test.YtegpoghgddjmaaaReadsSt
import Derived.Test.YtegpoghgddjmaaaAwake02
import Derived.Deep.LoopGhost
namespace Go.Proofs.Ytegpoghgddjmaaa
open Go.RowKit
set_option maxRecDepth 100000

section
variable {l rest a : List UInt8} {at_ i n at1 at2 : Nat} {e1 e2 : Int}
theorem read_cases (hc : countS l at_ 0 400 = (n, at1, e1)) (ht : textS l at1 e1 400 = (rest, at2, e2)) :
    (e2 ≠ 0 ∧ oneS l at_ i a = (e2, [], 0)) ∨ (e2 = 0 ∧ ∃ N V2 N2, getNum (l.drop at_) = (n, N, 0) ∧ ¬ 400 < n ∧ getNum (l.drop (at_ + N)) = (V2, N2, 0) ∧ ¬ 400 < V2 ∧ ¬ l.length - (at_ + N + N2) < V2 ∧ rest = (l.drop (at_ + N + N2)).take V2 ∧ at2 = at_ + N + N2 + V2) := by
  obtain ⟨V, N, E, hg⟩ : ∃ V N E, getNum (l.drop at_) = (V, N, E) := ⟨_, _, _, rfl⟩
  by_cases hE : E ≠ 0
  · rw [countS_err hg hE] at hc
    injection hc with h1 hc
    injection hc with h2 h3
    subst h1 h2 h3
    rw [textS_no hE] at ht
    injection ht with h1 ht
    injection ht with h2 h3
    subst h3
    exact .inl ⟨hE, oneS_1 hg hE⟩
  obtain rfl : E = 0 := Decidable.of_not_not hE
  by_cases hV : 400 < V
  · rw [countS_large hg (.inr (by omega))] at hc
    injection hc with h1 hc
    injection hc with h2 h3
    subst h1 h2 h3
    rw [textS_no (by decide)] at ht
    injection ht with h1 ht
    injection ht with h2 h3
    subst h3
    exact .inl ⟨by decide, oneS_2 hg hV⟩
  rw [countS_ok hg (by decide) (by omega)] at hc
  injection hc with h1 hc
  injection hc with h2 h3
  subst h1 h2 h3
  obtain ⟨V2, N2, E2, hg2⟩ : ∃ V2 N2 E2, getNum (l.drop (at_ + N)) = (V2, N2, E2) := ⟨_, _, _, rfl⟩
  by_cases hE2 : E2 ≠ 0
  · rw [textS_err hg2 hE2] at ht
    injection ht with h1 ht
    injection ht with h2 h3
    subst h3
    exact .inl ⟨hE2, oneS_3 hg hV hg2 hE2⟩
  obtain rfl : E2 = 0 := Decidable.of_not_not hE2
  by_cases hV2 : 400 < V2
  · rw [textS_large hg2 (.inr (by omega))] at ht
    injection ht with h1 ht
    injection ht with h2 h3
    subst h3
    exact .inl ⟨by decide, oneS_4 hg hV hg2 hV2⟩
  by_cases hs : l.length - (at_ + N + N2) < V2
  · rw [textS_short hg2 (by decide) (by omega) hs] at ht
    injection ht with h1 ht
    injection ht with h2 h3
    subst h3
    exact .inl ⟨by decide, oneS_5 hg hV hg2 hV2 hs⟩
  rw [textS_ok hg2 (by decide) (by omega) (by omega)] at ht
  injection ht with h1 ht
  injection ht with h2 h3
  subst h1 h2 h3
  exact .inr ⟨rfl, N, V2, N2, hg, hV, hg2, hV2, hs, rfl, rfl⟩
end
theorem count_cases {l : List UInt8} {n at1 : Nat} {e1 : Int} (hc : countS l 0 0 4096 = (n, at1, e1)) : (e1 ≠ 0 ∧ n = 0 ∧ openS l = (e1, [])) ∨ (e1 = 0 ∧ n ≤ 4096 ∧ openS l = moreS l n at1 0 []) := by
  obtain ⟨V, N, E, hg⟩ : ∃ V N E, getNum (l.drop 0) = (V, N, E) := ⟨_, _, _, rfl⟩
  have hg' : getNum l = (V, N, E) := hg
  by_cases hE : E ≠ 0
  · rw [countS_err hg hE] at hc
    injection hc with h1 hc
    injection hc with h2 h3
    subst h1 h2 h3
    refine .inl ⟨hE, ((getNum_fits hg (Nat.zero_le _)).2.2 hE).1, ?_⟩
    unfold openS
    rw [hg']
    simp only []
    rw [if_pos hE]
  obtain rfl : E = 0 := Decidable.of_not_not hE
  by_cases hV : 4096 < V
  · rw [countS_large hg (.inr (by omega))] at hc
    injection hc with h1 hc
    injection hc with h2 h3
    subst h1 h2 h3
    refine .inl ⟨by decide, rfl, ?_⟩
    unfold openS
    rw [hg']
    simp only []
    rw [if_neg (by simp), if_pos hV]
  rw [countS_ok hg (by decide) (by omega)] at hc
  injection hc with h1 hc
  injection hc with h2 h3
  subst h1 h2 h3
  refine .inr ⟨rfl, by omega, ?_⟩
  unfold openS
  rw [hg']
  simp only []
  rw [if_neg (by simp), if_neg hV, Nat.zero_add]

def OpenPost (l : List UInt8) (w : World) (e : Ending) (w' : World) : Prop :=
  Below w.heap.size w w' ∧ (((openS l).1 ≠ 0 ∧ e = .returned (.tuple #[.pointer none, .int .i64 (openS l).1])) ∨
    ((openS l).1 = 0 ∧ ∃ g v xs, e = .returned (.tuple #[.pointer (some ⟨g, 0, none⟩), .int .i64 0]) ∧ Tab w' g (openS l).2 v xs ∧ (openS l).2.length ≤ 4096))
/-- Behind k texts, the last one a. -/
structure OpAt (l : List UInt8) (w wr : World) (gr gt : Nat) (A : Option Addr) (c n k : Nat) (e0 : Int) (a : List UInt8) (at_ : Nat) (T : List (List UInt8)) (v : Value) (xs : List Value) : Prop where
  rd : OwnR wr gr A c l at_ e0
  tb : Tab wr gt T v xs
  len : T.length = k
  B : Below w.heap.size w wr
  far : w.heap.size ≤ gr ∧ gr < gt
  last : 0 < k → a = txt T (k - 1)
  al : a.length ≤ 400
  yes : e0 = 0 → openS l = ((moreS l (n - k) at_ k a).1, T ++ (moreS l (n - k) at_ k a).2)
  no : e0 ≠ 0 → n = 0 ∧ openS l = (e0, [])
def OpW (l : List UInt8) (w wr : World) (gr gt : Nat) (A : Option Addr) (c n k : Nat) (e0 : Int) (a : List UInt8) : Prop := ∃ at_ T v xs, OpAt l w wr gr gt A c n k e0 a at_ T v xs
theorem Tab.turn {w w' : World} {g gr : Nat} {L : List (List UInt8)} {v : Value} {xs : List Value} (h : Tab w g L v xs) (hT : Turn gr w w') (hg : gr < g) : Tab w' g L v xs := h.keep (fun k h1 h2 => hT.block k h2 (by omega)) hT.size
theorem NextText {l : List UInt8} {n k at_ at2 : Nat} {a s : List UInt8} {T : List (List UInt8)} (h : openS l = ((moreS l (n - k) at_ k a).1, T ++ (moreS l (n - k) at_ k a).2)) (hk : k < n) (h1 : oneS l at_ k a = (0, s, at2)) :
    openS l = ((moreS l (n - (k + 1)) at2 (k + 1) s).1, (T ++ [s]) ++ (moreS l (n - (k + 1)) at2 (k + 1) s).2) := by
  rw [show n - k = (n - (k + 1)) + 1 by omega, moreS_yes h1] at h
  rw [h, List.append_assoc]
  rfl
theorem NoText {l : List UInt8} {n k at_ : Nat} {a : List UInt8} {T : List (List UInt8)} {e : Int} (h : openS l = ((moreS l (n - k) at_ k a).1, T ++ (moreS l (n - k) at_ k a).2)) (hk : k < n) (h1 : oneS l at_ k a = (e, [], 0)) (he : e ≠ 0) : (openS l).1 = e := by
  rw [h, show n - k = (n - (k + 1)) + 1 by omega, moreS_no h1 he]
set_option maxHeartbeats 8000000 in
theorem open_any (A0 : Option Addr) (n0 cap : Nat) (l : List UInt8) (w : World) (hA : Bytes w w.heap.size A0 l) (hn : l.length = n0) (hl : n0 ≤ 140737488355328) (hcap : A0 = none → cap = 0) :
    Calls Try.prog 65 #[.slice A0 n0 cap] w (OpenPost l w) := by
  have hll : l.length ≤ 140737488355328 := by omega
  have Hr := Lib.hid (newReader_any A0 n0 cap l w hA hn hl hcap)
  have Hll := Lib.hid hll
  clear hA hn hcap hll
  go_enter Try.func65, Try.ntmps65
  go_wp2_with fail
  refine Hr.out.mono ?_
  rintro e w1 ⟨gr, A, c, rfl, hgr, hR, hB⟩
  have hb2 := na (nr w1) (.cells #[.int .i64 0, .slice none 0 0] 115)
  have Hc := Lib.hid (rcount_any gr A c l 0 0 4096 _ (hR.new_ hb2) Hll.out (by decide) (by decide))
  have HB := Lib.hid (And.intro hgr (And.intro (nt hB hb2) (Tab.made w1)))
  have hlt := hR.lt
  clear hR hB hb2 hgr
  obtain ⟨n, at1, e0, hc⟩ : ∃ n at1 e0, countS l 0 0 4096 = (n, at1, e0) := ⟨_, _, _, rfl⟩
  have Hcc := Lib.hid (count_cases hc)
  rw [hc] at Hc
  clear hc
  go_wp2_with fail
  refine Hc.out.mono ?_
  rintro e w2 ⟨rfl, hR2, hO2⟩
  have hn4 : n ≤ 4096 := by rcases Hcc.out with h | h <;> omega
  have h0 : Hid (OpW l w w2 gr w1.heap.size A c n 0 e0 []) := by
    refine ⟨at1, [], _, _, hR2, HB.out.2.2.turn hO2.turn hlt, rfl, hO2.new_ HB.out.1 HB.out.2.1, ⟨HB.out.1, hlt⟩, fun h => by omega, by simp, fun h => ?_, fun h => ?_⟩
    · rcases Hcc.out with h1 | h1
      · exact absurd h h1.1
      · rw [h1.2.2]; rfl
    · rcases Hcc.out with h1 | h1
      · exact ⟨h1.2.1, h1.2.2⟩
      · exact absurd h1.1 h
  clear Hc Hcc HB hR2 hO2
  generalize w1.heap.size = gt at *
  go_wp2_with fail
  go_loopg [6, 19] n (fun g s i wr => g ≤ n ∧ i = .int .i64 ((n - g : Nat) : Int) ∧ ∃ a : List UInt8, s = S8 a ∧ Hid (OpW l w wr gr gt A c n (n - g) e0 a))
  case atStart => exact ⟨Nat.le_refl _, by simp, [], rfl, by rw [Nat.sub_self]; exact h0⟩
  case round =>
    obtain ⟨hk, rfl, a, rfl, hR⟩ := hrel
    obtain ⟨k, hkk⟩ : ∃ k, n - gk = k := ⟨_, rfl⟩
    rw [hkk] at hR ⊢
    obtain ⟨at_, T, v, xs, hO⟩ := hR.out
    have ha := hO.al
    have HO := Lib.hid hO
    clear hR hO
    by_cases hk0 : gk = 0
    · obtain rfl : k = n := by omega
      have hd := done_any gr A c l at_ e0 wr HO.out.rd Hll.out
      by_cases he : e0 = 0
      · subst he
        have hy := HO.out.yes rfl
        rw [Nat.sub_self] at hy
        unfold moreS at hy
        by_cases hend : at_ < l.length
        · rw [if_pos hend] at hy
          rw [if_pos ⟨rfl, hend⟩] at hd
          have Ho := Lib.hid (show (openS l).1 = 3 by rw [hy])
          have Hd := Lib.hid hd
          clear hy hd
          go_wp2_with fail
          refine Hd.out.mono ?_
          rintro e w3 ⟨⟨nq, rfl⟩, rfl⟩
          go_wp2_with fail
          go_ret2
          exact ⟨nD HO.out.B nq, .inl ⟨by rw [Ho.out]; decide, by rw [Ho.out]; rfl⟩⟩
        · rw [if_neg hend, List.append_nil] at hy
          rw [if_neg (fun h => hend h.2)] at hd
          have Ho := Lib.hid hy
          have Hd := Lib.hid hd
          clear hy hd
          go_wp2_with fail
          refine Hd.out.mono ?_
          rintro e w3 ⟨⟨nq, rfl⟩, rfl⟩
          go_wp2_with fail
          go_ret2
          exact ⟨nD HO.out.B nq, .inr ⟨by rw [Ho.out], gt, v, xs, rfl, by rw [Ho.out]; exact HO.out.tb.new_ (nD (nr wr) nq), by rw [Ho.out]; show T.length ≤ 4096; rw [HO.out.len]; exact hn4⟩⟩
      · rw [if_neg (fun h => he h.1)] at hd
        have Ho := Lib.hid (HO.out.no he).2
        have Hd := Lib.hid hd
        have hq : (e0 == 0) = false := by rw [beq_eq_false_iff_ne]; exact he
        clear hd
        go_wp2_with fail
        refine Hd.out.mono ?_
        rintro e w3 ⟨⟨nq, rfl⟩, rfl⟩
        go_wp2_with fail
        go_ret2
        exact ⟨nD HO.out.B nq, .inl ⟨by rw [Ho.out]; exact he, by rw [Ho.out]; rfl⟩⟩
    · have hkn : k < n := by omega
      have hki : (k : Int) < (n : Int) := by omega
      have hgi : Hid (n - (gk - 1) = k + 1) := show _ = _ by omega
      obtain rfl : e0 = 0 := by
        by_cases h : e0 = 0
        · exact h
        · have := (HO.out.no h).1; omega
      obtain ⟨m, b1, f1, hc⟩ : ∃ m b1 f1, countS l at_ 0 400 = (m, b1, f1) := ⟨_, _, _, rfl⟩
      obtain ⟨rest, b2, f2, ht⟩ : ∃ rest b2 f2, textS l b1 f1 400 = (rest, b2, f2) := ⟨_, _, _, rfl⟩
      have Hrc := Lib.hid (read_cases (i := k) (a := a) hc ht)
      have h1 := rcount_any gr A c l at_ 0 400 wr HO.out.rd Hll.out (by decide) (by decide)
      rw [hc] at h1
      have h2 := fun W h => rtext_any gr A c l b1 f1 400 W h Hll.out (by decide) (by decide)
      simp only [ht] at h2
      have H1 := Lib.hid h1
      have H2 := Lib.hid h2
      clear hc ht h1 h2
      go_wp2_with fail
      refine H1.out.mono ?_
      rintro e w3 ⟨rfl, hR3, hO3⟩
      have G3 := Lib.hid (And.intro hR3 hO3.turn)
      clear hR3 hO3
      go_wp2_with fail
      refine (H2.out w3 G3.out.1).mono ?_
      rintro e w4 ⟨rfl, hR4, hT4⟩
      have G4 := Lib.hid (And.intro hR4 (G3.out.2.trans hT4))
      clear hR4 hT4 H1 H2
      go_wp2_with fail
      refine (err_any gr A c l b2 f2 w4 G4.out.1).mono ?_
      rintro e w5 ⟨rfl, rfl⟩
      have B4 := Lib.hid (HO.out.B.trans (G4.out.2.below HO.out.far.1 HO.out.B.size))
      have T4 := Lib.hid (HO.out.tb.turn G4.out.2 HO.out.far.2)
      by_cases hf2 : f2 = 0
      · subst hf2
        obtain ⟨N, V2, N2, hg, hm4, hg2, hV2, hs, hrest, hb2⟩ : ∃ N V2 N2, getNum (l.drop at_) = (m, N, 0) ∧ ¬ 400 < m ∧ getNum (l.drop (at_ + N)) = (V2, N2, 0) ∧ ¬ 400 < V2 ∧ ¬ l.length - (at_ + N + N2) < V2 ∧ rest = (l.drop (at_ + N + N2)).take V2 ∧ b2 = at_ + N + N2 + V2 := by
          rcases Hrc.out with h | h
          · exact absurd rfl h.1
          · exact h.2
        have hrl : rest.length ≤ 400 := by rw [hrest, List.length_take]; omega
        have HG := Lib.hid (And.intro hg (And.intro hm4 (And.intro hg2 (And.intro hV2 (And.intro hs (And.intro hrest hb2))))))
        clear hg hm4 hg2 hV2 hs hrest hb2
        by_cases hal : a.length < m
        · have hali : (a.length : Int) < (m : Int) := by omega
          have Ho := Lib.hid (show (openS l).1 = 3 from NoText (HO.out.yes rfl) hkn (oneS_6 HG.out.1 HG.out.2.1 HG.out.2.2.1 HG.out.2.2.2.1 HG.out.2.2.2.2.1 hal) (by decide))
          go_wp2_with fail
          go_ret2
          exact ⟨B4.out, .inl ⟨by rw [Ho.out]; decide, by rw [Ho.out]; rfl⟩⟩
        have hali : (m : Int) ≤ (a.length : Int) := by omega
        obtain ⟨s, hs⟩ : ∃ s, a.take m ++ rest = s := ⟨_, rfl⟩
        have hlt : (a.take m).length = m := by rw [List.length_take]; omega
        have hsl : s.length ≤ 800 := by rw [← hs, List.length_append]; omega
        have q1 := str_take a m
        have q2 := str_add (a.take m) rest
        rw [hs] at q2
        have hst : a.take m ++ (l.drop (at_ + _ + _)).take _ = s := HG.out.2.2.2.2.2.1 ▸ hs
        have HS := Lib.hid (And.intro hst (show rest = s.drop m by rw [← hs, List.drop_append_of_le_length (by omega), List.drop_eq_nil_of_le (by omega)]; rfl))
        clear hs hst
        go_wp2_with fail
        refine (follows_any k a s w5 (by omega)).mono ?_
        rintro e w6 ⟨rfl, rfl⟩
        by_cases hf : followsS k a s = 0
        · have hs4 := followsS_len hf
          have Hsh := Lib.hid (shared_any k a s w6 (by omega) (by omega) (by omega))
          rw [hf]
          by_cases hz : m = sharedS k a s
          · have Ho := Lib.hid (NextText (HO.out.yes rfl) hkn (oneS_9 HG.out.1 HG.out.2.1 HG.out.2.2.1 HG.out.2.2.2.1 HG.out.2.2.2.2.1 hal HS.out.1 hf hz))
            have Hn := Lib.hid (show T.length % 8 ≠ 0 → m = alikeS (txt T (T.length - 1)) s ∧ rest = s.drop m by
              intro h8
              have hlen := HO.out.len
              rw [hlen] at h8 ⊢
              rw [← HO.out.last (by omega)]
              refine ⟨?_, HS.out.2⟩
              rw [hz]
              unfold sharedS
              rw [if_neg h8])
            rw [← hz] at Hsh
            clear hz hf
            go_wp2_with fail
            refine Hsh.out.mono ?_
            rintro e w7 ⟨rfl, hb7⟩
            have H7 := Lib.hid (And.intro (G4.out.1.new_ hb7) (And.intro (B4.out.trans (hb7.mono B4.out.size)) (T4.out.new_ hb7)))
            clear hb7
            go_wp2_with fail
            refine (add_any gt m T rest s v xs w7 H7.out.2.2 (by rw [HO.out.len]; omega) hs4 Hn.out).mono ?_
            rintro e w8 ⟨rfl, v', xs', hT8, hb8⟩
            have H8 := Lib.hid (And.intro hT8 hb8)
            clear hT8 hb8
            go_wp2_with fail
            go_roundg (gk - 1)
            case measure => omega
            case rel =>
              refine ⟨by omega, by rw [hgi.out]; congr 1, s, rfl, ?_⟩
              rw [hgi.out]
              have hlen := HO.out.len
              have hfar := HO.out.far
              exact ⟨_, T ++ [s], v', xs', H7.out.1.below1 (H8.out.2.mono (by omega)), H8.out.1, by rw [List.length_append, hlen]; rfl, H7.out.2.1.trans (H8.out.2.mono (by omega)), HO.out.far, fun _ => by rw [show k + 1 - 1 = T.length by omega, txt_snoc_eq], hs4, fun _ => HG.out.2.2.2.2.2.2 ▸ Ho.out, fun h => absurd rfl h⟩
          · have Ho := Lib.hid (show (openS l).1 = 3 from NoText (HO.out.yes rfl) hkn (oneS_8 HG.out.1 HG.out.2.1 HG.out.2.2.1 HG.out.2.2.2.1 HG.out.2.2.2.2.1 hal HS.out.1 hf hz) (by decide))
            have hzq : ((m : Int) == (sharedS k a s : Int)) = false := by rw [beq_eq_false_iff_ne]; omega
            clear hf
            generalize sharedS k a s = z at *
            go_wp2_with fail
            refine Hsh.out.mono ?_
            rintro e w7 ⟨rfl, hb7⟩
            have H7 := Lib.hid (B4.out.trans (hb7.mono B4.out.size))
            clear hb7
            go_wp2_with fail
            go_ret2
            exact ⟨H7.out, .inl ⟨by rw [Ho.out]; decide, by rw [Ho.out]; rfl⟩⟩
        · have hq : (followsS k a s == 0) = false := by rw [beq_eq_false_iff_ne]; exact hf
          have Ho := Lib.hid (NoText (HO.out.yes rfl) hkn (oneS_7 HG.out.1 HG.out.2.1 HG.out.2.2.1 HG.out.2.2.2.1 HG.out.2.2.2.2.1 hal HS.out.1 hf) hf)
          have Hf := Lib.hid hf
          clear hf
          go_wp2_with fail
          go_ret2
          exact ⟨B4.out, .inl ⟨by rw [Ho.out]; exact Hf.out, by rw [Ho.out]; rfl⟩⟩
      · have hq : (f2 == 0) = false := by rw [beq_eq_false_iff_ne]; exact hf2
        have Ho := Lib.hid (show (openS l).1 = f2 by
          rcases Hrc.out with h | h
          · exact NoText (HO.out.yes rfl) hkn h.2 hf2
          · exact absurd h.1 hf2)
        go_wp2_with fail
        go_ret2
        exact ⟨B4.out, .inl ⟨by rw [Ho.out]; exact hf2, by rw [Ho.out]; rfl⟩⟩
end Go.Proofs.Ytegpoghgddjmaaa
