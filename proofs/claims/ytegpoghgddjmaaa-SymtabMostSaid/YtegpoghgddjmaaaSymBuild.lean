/- The walk of symtab.Build: the bytes of any texts. -/
import Derived.Test.YtegpoghgddjmaaaSymPlain
import Derived.Test.YtegpoghgddjmaaaWriter3
import Derived.Test.YtegpoghgddjmaaaReader
namespace Go.Proofs.Ytegpoghgddjmaaa
open Go.RowKit
set_option maxRecDepth 100000

theorem errS_cons (i : Nat) (a s : List UInt8) (r : List (List UInt8)) : errS i a (s :: r) = if followsS i a s = 0 then errS (i + 1) s r else followsS i a s := rfl
theorem bodyS_cons (i : Nat) (a s : List UInt8) (r : List (List UInt8)) : bodyS i a (s :: r) = entryS (sharedS i a s) s ++ bodyS (i + 1) s r := rfl
def BuildPost (L : List (List UInt8)) (w : World) (e : Ending) (w' : World) : Prop :=
  ∃ A n c, e = .returned (.tuple #[.slice A n c, .int .i64 (buildE L)]) ∧ Own w' w.heap.size (.slice A n c) (buildR L) ∧ Below w.heap.size w w'
/-- Behind k texts, the last one a. -/
def BldAt (L : List (List UInt8)) (F : List UInt8) (k : Nat) (a : List UInt8) : Prop :=
  F ++ bodyS k a (L.drop k) = buildB L ∧ errS k a (L.drop k) = errS 0 [] L ∧ F.length ≤ 9 + 418 * k ∧ a.length ≤ 400
theorem drop_next {α : Type} {L : List α} {k : Nat} {x : α} (h : L[k]? = some x) : L.drop k = x :: L.drop (k + 1) := by
  obtain ⟨hk, rfl⟩ := List.getElem?_eq_some_iff.1 h
  exact List.drop_eq_getElem_cons hk
theorem BldAt.start (L : List (List UInt8)) : BldAt L (num L.length) 0 [] := ⟨rfl, rfl, by have := num_length L.length; omega, by simp⟩
theorem BldAt.no {L : List (List UInt8)} {F : List UInt8} {k : Nat} {a x : List UInt8} (h : BldAt L F k a) (hx : L[k]? = some x) (hf : followsS k a x ≠ 0) (hl : ¬ 4096 < L.length) : buildE L = followsS k a x ∧ buildR L = [] := by
  obtain ⟨_, h2, _⟩ := h
  rw [drop_next hx, errS_cons, if_neg hf] at h2
  have he : buildE L = followsS k a x := by unfold buildE; rw [if_neg hl]; exact h2.symm
  exact ⟨he, by unfold buildR; rw [he, if_neg hf]⟩
theorem BldAt.yes {L : List (List UInt8)} {F : List UInt8} {k n : Nat} {a x : List UInt8} (h : BldAt L F k a) (hx : L[k]? = some x) (hf : followsS k a x = 0) (hn : sharedS k a x = n) : BldAt L (F ++ num n ++ (num (x.drop n).length ++ x.drop n)) (k + 1) x := by
  obtain ⟨h1, h2, h3, h4⟩ := h
  have hl := followsS_len hf
  have g1 := num_length n
  have g2 := num_length (x.drop n).length
  rw [drop_next hx] at h1 h2
  rw [errS_cons, if_pos hf] at h2
  rw [bodyS_cons, hn] at h1
  refine ⟨?_, h2, ?_, hl⟩
  · rw [← h1]; unfold entryS; simp only [List.append_assoc]
  · have : (x.drop n).length ≤ x.length := by rw [List.length_drop]; omega
    simp only [List.length_append]
    omega
theorem BldAt.done {L : List (List UInt8)} {F : List UInt8} {k : Nat} {a : List UInt8} (h : BldAt L F k a) (hk : k = L.length) (hl : ¬ 4096 < L.length) : buildE L = 0 ∧ buildR L = F := by
  obtain ⟨h1, h2, _⟩ := h
  rw [List.drop_eq_nil_of_le (by omega)] at h1 h2
  have he : buildE L = 0 := by unfold buildE; rw [if_neg hl]; exact h2.symm
  refine ⟨he, ?_⟩
  unfold buildR
  rw [if_pos he, ← h1]
  simp [bodyS]
theorem str_drop (l : List UInt8) (k : Nat) : (({ data := l.toArray } : ByteArray).extract k l.length) = { data := (l.drop k).toArray } := by
  rw [ByteArray.extract_mk]
  simp only [ByteArray.mk.injEq]
  apply Array.ext'
  simp
  rw [List.take_of_length_le (by simp)]

def BldW (L : List (List UInt8)) (w wr : World) (gw k : Nat) (a : List UInt8) : Prop := ∃ vw F, OwnW wr gw vw F ∧ Below gw w wr ∧ BldAt L F k a
set_option maxHeartbeats 4000000 in
theorem build_any (A : Option Addr) (n cap : Nat) (L : List (List UInt8)) (w : World) (hA : Strs w w.heap.size A L) (hn : L.length = n) (hl : n ≤ 1099511627776) :
    Calls Try.prog 64 #[.slice A n cap] w (BuildPost L w) := by
  by_cases h4 : 4096 < n
  · have h4i : (4096 : Int) < (n : Int) := by omega
    have he := Lib.hid (show buildE L = 4 by unfold buildE; rw [if_pos (by omega)])
    have hr := Lib.hid (show buildR L = [] by unfold buildR; rw [he.out]; rfl)
    clear hn
    go_enter Try.func64, Try.ntmps64
    go_wp2_with fail
    go_ret2
    exact ⟨none, 0, 0, by rw [he.out]; rfl, by rw [hr.out]; exact Own.nil_ _ _, nr w⟩
  have h4i : (n : Int) ≤ 4096 := by omega
  have Hn := Lib.hid hn
  have HA := Lib.hid hA
  clear hn hA
  go_enter Try.func64, Try.ntmps64
  go_wp2_with fail
  refine (newWriter_any w).mono ?_
  rintro e w1 ⟨rfl, hW1, hb1⟩
  have H1 := Lib.hid (And.intro hW1 hb1)
  clear hW1 hb1
  have hgw : Hid (w.heap.size ≤ w.heap.size) := Nat.le_refl _
  obtain ⟨gw, hgw⟩ : ∃ gw, w.heap.size = gw := ⟨_, rfl⟩
  rw [hgw] at H1 ⊢
  have Hgw := Lib.hid hgw
  clear hgw
  go_wp2_with fail
  refine (wnum_any gw n [] w1 (by omega) _ H1.out.1 (by simp)).mono ?_
  rintro e w2 ⟨rfl, v1, hW2, hG2⟩
  have h0 : Hid (BldW L w w2 gw 0 []) := ⟨v1, num n, hW2, H1.out.2.trans (hG2.below H1.out.1 (Nat.le_refl _)), by rw [← Hn.out]; exact BldAt.start L⟩
  clear hW2 hG2 H1
  go_wp2_with fail
  go_loopg [5, 21] n (fun g s i wr => g ≤ n ∧ i = .int .i64 ((n - g : Nat) : Int) ∧ ∃ a : List UInt8, s = S8 a ∧ Hid (BldW L w wr gw (n - g) a))
  case atStart => exact ⟨Nat.le_refl _, by simp, [], rfl, by rw [Nat.sub_self]; exact h0⟩
  case round =>
    obtain ⟨hk, rfl, a, rfl, hR⟩ := hrel
    obtain ⟨k, hkk⟩ : ∃ k, n - gk = k := ⟨_, rfl⟩
    rw [hkk] at hR ⊢
    obtain ⟨vw, F, hW, hB, hD⟩ := hR.out
    have hF := hD.2.2.1
    have ha := hD.2.2.2
    have HR := Lib.hid (And.intro hW (And.intro hB hD))
    clear hR hW hB hD
    by_cases hk0 : gk = 0
    · obtain rfl : k = n := by omega
      have hr := Lib.hid (HR.out.2.2.done Hn.out.symm (by rw [Hn.out]; omega))
      go_wp2_with fail
      refine (wbytes_any gw F wr vw HR.out.1 (by omega)).mono ?_
      rintro e W' ⟨A7, c7, rfl, ho, hb'⟩
      have Ho := Lib.hid (And.intro ho hb')
      clear ho hb'
      go_wp2_with fail
      go_ret2
      have hs := HR.out.2.1.size
      refine ⟨A7, F.length, c7, by rw [hr.out.1]; rfl, ?_, ?_⟩
      · rw [hr.out.2]; exact Ho.out.1.rebase hs
      · have := HR.out.2.1.trans (Ho.out.2.mono (by have := HR.out.1.2.2.1; omega))
        rw [← Hgw.out] at this
        exact this
    · have hlt : k < n := by omega
      have hki : (k : Int) < (n : Int) := by omega
      have hgi : Hid (n - (gk - 1) = k + 1) := show _ = _ by omega
      have hs := HR.out.2.1.size
      obtain ⟨b, off, x, rfl, hbg, hx, hc, hxl⟩ := (HA.out.below (Hgw.out ▸ HR.out.2.1) hs).get (k := k) (by rw [Hn.out]; exact hlt)
      have Hx := Lib.hid hx
      clear hx hbg
      go_wp2_with fail
      refine (follows_any k a x wr hxl).mono ?_
      rintro e w' ⟨rfl, rfl⟩
      by_cases hf : followsS k a x = 0
      · have hs' := sharedS_le k a x
        have hS := shared_any k a x
        have hdl : (x.drop (sharedS k a x)).length ≤ x.length := by rw [List.length_drop]; omega
        have hx4 := followsS_len hf
        have hY := Lib.hid (HR.out.2.2.yes Hx.out hf rfl)
        have hd := str_drop x (sharedS k a x)
        rw [hf]
        have Hf := Lib.hid hf
        clear hf
        generalize sharedS k a x = m at *
        have HS := Lib.hid hS
        clear hS
        go_wp2_with fail
        refine (HS.out w' (by omega) (by omega) hxl).mono ?_
        rintro e w3 ⟨rfl, hb3⟩
        have Hb3 := Lib.hid hb3
        clear hb3
        have hn9 := num_length m
        go_wp2_with fail
        refine (wnum_any gw m F w3 (by omega) vw (HR.out.1.again w3 Hb3.out) (by omega)).mono ?_
        rintro e w4 ⟨rfl, v4, hW4, hG4⟩
        have H4 := Lib.hid (And.intro hW4 hG4)
        clear hW4 hG4
        go_wp2_with fail
        refine (wtext_any gw (x.drop m) (F ++ num m) w4 v4 H4.out.1 (by rw [List.length_append]; omega) (by omega)).mono ?_
        rintro e w5 ⟨rfl, v5, hW5, hG5⟩
        have H5 := Lib.hid (And.intro hW5 hG5)
        clear hW5 hG5
        go_wp2_with fail
        go_roundg (gk - 1)
        case measure => omega
        case rel =>
          refine ⟨by omega, by rw [hgi.out]; congr 1, x, rfl, ?_⟩
          rw [hgi.out]
          refine ⟨v5, _, H5.out.1, ?_, hY.out⟩
          have W3 := HR.out.1.again w3 Hb3.out
          have b3 := HR.out.2.1.trans (Hb3.out.mono (by have := HR.out.1.2.2.1; omega))
          exact (b3.trans (H4.out.2.below W3 (Nat.le_refl _))).trans (H5.out.2.below H4.out.1 (Nat.le_refl _))
      · have hq : (followsS k a x == 0) = false := by rw [beq_eq_false_iff_ne]; exact hf
        have hr := Lib.hid (HR.out.2.2.no Hx.out hf (by rw [Hn.out]; omega))
        clear hf
        go_wp2_with fail
        go_ret2
        exact ⟨none, 0, 0, by rw [hr.out.1]; rfl, by rw [hr.out.2]; exact Own.nil_ _ _, Hgw.out ▸ HR.out.2.1⟩
end Go.Proofs.Ytegpoghgddjmaaa
