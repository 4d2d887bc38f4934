/- The walk of symtab's All: the texts of a table. -/
import Derived.Test.YtegpoghgddjmaaaSymText
import Derived.Deep.LoopGhost
namespace Go.Proofs.Ytegpoghgddjmaaa
open Go.RowKit
set_option maxRecDepth 100000

theorem strInfo : (Try.prog.info? 9).map (fun i => (i.zero, i.size, i.bytes)) = some (some (.string ⟨#[]⟩), 1, 16) := by kernel_rfl
/-- The slice v of the call's own holds these texts. -/
abbrev OwnS (w : World) (base : Nat) (v : Value) (L : List (List UInt8)) : Prop := w.ownsRow base 9 1 v L.length (L.map S8)
theorem OwnS.strs {w : World} {base n c : Nat} {A : Option Addr} {L : List (List UInt8)} (h : OwnS w base (.slice A n c) L) (hl : ∀ (j : Nat) (l : List UInt8), L[j]? = some l → l.length ≤ 9223372036854775807) : Strs w w.heap.size A L := fun hp => by
  rcases h.2 with ⟨hv, h0⟩ | ⟨g, cap, cur, hv, hb, hg, hnc, hcm, hcs, ht⟩
  · omega
  · injection hv with h1 h2 h3
    subst h1 h2 h3
    refine ⟨g, 0, rfl, (Array.getElem?_eq_some_iff.1 hg).1, fun j l hj => ⟨?_, hl j l hj⟩⟩
    rw [Nat.zero_add]
    exact (ownsRow_at h (i := j) (by rw [List.getElem?_map, hj]; rfl)).1
def AllPost (L : List (List UInt8)) (w : World) (e : Ending) (w' : World) : Prop :=
  ∃ A c, e = .returned (.slice A L.length c) ∧ OwnS w' w.heap.size (.slice A L.length c) L ∧ Below w.heap.size w w'
def AllAt (L : List (List UInt8)) (w wr : World) (k : Nat) (o : Value) : Prop := OwnS wr w.heap.size o (L.take k) ∧ Below w.heap.size w wr
theorem take_txt {L : List (List UInt8)} {k : Nat} (h : k < L.length) : L.take (k + 1) = L.take k ++ [txt L k] := by
  rw [List.take_succ_eq_append_getElem h]
  unfold txt
  simp [h]
/-- Behind the append of a text. -/
theorem AllAt.step {L : List (List UInt8)} {w wr W w1 : World} {k g cap : Nat} {o : Value} (h : AllAt L w wr k o) (hk : k < L.length) (hW : Below wr.heap.size wr W) (ho : w1.ownsRow w.heap.size 9 1 (.slice (some ⟨g, 0, none⟩) ((L.take k).length + 1) cap) ((L.take k).length + 1) ((L.take k).map S8 ++ [S8 (txt L k)])) (hg : W.grownBy w1 o.ownBlock) :
    AllAt L w w1 (k + 1) (.slice (some ⟨g, 0, none⟩) ((L.take k).length + 1) cap) := by
  refine ⟨?_, ?_⟩
  · unfold OwnS
    rw [take_txt hk, List.length_append, List.map_append]
    exact ho
  · have hs := h.2.size
    have hs2 := hW.size
    exact (h.2.trans (hW.mono hs)).grown hg (by omega) (fun q e => (World.ownsRow.lt h.1 q e).1)
theorem AllAt.over {L : List (List UInt8)} {w wr : World} {k k' : Nat} {o : Value} (h : AllAt L w wr k o) (h1 : L.length ≤ k) (h2 : L.length ≤ k') : AllAt L w wr k' o := by
  unfold AllAt at h ⊢
  rw [List.take_of_length_le h2]
  rwa [List.take_of_length_le h1] at h
theorem AllAt.other {L : List (List UInt8)} {w wr : World} {k p : Nat} {o : Value} {C : Array Value} (h : AllAt L w wr k o) (hp : wr.heap[p]? = some (.cells C 119 (0, 0))) : some p ≠ o.ownBlock := fun e => by
  rcases h.1.2 with ⟨hv, h0⟩ | ⟨g, cap, cur, hv, hb, hg, _⟩
  · rw [hv] at e; cases e
  · rw [hv] at e
    injection e with e
    subst e
    rw [hp] at hg
    injection hg with hg
    injection hg with _ hg
    cases hg

set_option maxHeartbeats 8000000 in
theorem all_any (g : Nat) (L : List (List UInt8)) (v : Value) (xs : List Value) (w : World) (hT : Tab w g L v xs) (hl : L.length ≤ 4096) :
    Calls Try.prog 75 #[.pointer (some ⟨g, 0, none⟩)] w (AllPost L w) := by
  obtain ⟨A0, C0, rfl⟩ := ownsRow_form hT.row
  have c1 := hT.c1
  have HT := Lib.hid hT
  clear hT
  have hnb : blocksN L.length ≤ 512 := by unfold blocksN; omega
  have HN := Lib.hid (show blocksN L.length = (L.length + 7) / 8 from rfl)
  generalize blocksN L.length = nb at *
  have h0 : Hid (AllAt L w w (8 * 0) (.slice none 0 0)) := ⟨World.ownsRow_nil _ _ _ _, nr w⟩
  go_enter Try.func75, Try.ntmps75
  go_wp2_with fail
  go_loopg [3, 12] nb (fun gk o i wr => gk ≤ nb ∧ i = .int .i64 ((nb - gk : Nat) : Int) ∧ Hid (AllAt L w wr (8 * (nb - gk)) o))
  case atStart => exact ⟨Nat.le_refl _, by simp, by rw [Nat.sub_self]; exact h0⟩
  case round =>
    obtain ⟨hk, rfl, hR⟩ := hrel
    obtain ⟨o, ho_⟩ : ∃ o, o = u3 := ⟨_, rfl⟩
    subst ho_
    obtain ⟨q, hqq⟩ : ∃ q, nb - gk = q := ⟨_, rfl⟩
    rw [hqq] at hR ⊢
    by_cases hk0 : gk = 0
    · obtain rfl : q = nb := by omega
      obtain ⟨ho, hB⟩ := hR.out
      rw [List.take_of_length_le (by have := HN.out; omega)] at ho
      obtain ⟨A1, C1, rfl⟩ := ownsRow_form ho
      have HO := Lib.hid (And.intro ho hB)
      clear ho hB hR
      go_wp2_with fail
      go_ret
      exact ⟨A1, C1, rfl, HO.out.1, HO.out.2⟩
    · have hqn : q < nb := by omega
      have hqi : (q : Int) < (nb : Int) := by omega
      have hgi : Hid (nb - (gk - 1) = q + 1) := show _ = _ by omega
      have hq8 : 8 * q < L.length := by have := HN.out; omega
      obtain ⟨b, off, c, A, n, ct, hv, hb, k0, k1, hn, hnc, hcm, hTA⟩ := HT.out.block hq8
      injection hv with e1 e2 e3
      subst e1 e3
      clear e2
      have k0 := (hR.out.2.cell (p := ⟨b, _, none⟩) hb).trans k0
      have k1 := (hR.out.2.cell (p := ⟨b, _, none⟩) hb).trans k1
      have hnn := block_n hn
      have HA := Lib.hid (And.intro hTA (And.intro hn.symm (txt_block_len HT.out q)))
      have hfit : 8 * q + n < L.length := by omega
      have hnext : Hid (AllAt L w (wr.alloc (.cells #[S8 (txt L (8 * q)), .slice A n ct] 119)) (8 * q + 0) o ∧ (wr.alloc (.cells #[S8 (txt L (8 * q)), .slice A n ct] 119)).heap[wr.heap.size]? = some (.cells #[S8 (txt L (8 * q)), .slice A n ct] 119 (0, 0))) :=
        ⟨⟨hR.out.1.alloc _, na hR.out.2 _⟩, heap_alloc_new wr _⟩
      have hq9 : Hid (8 * q + (n + 1) = 8 * (q + 1) ∨ (L.length ≤ 8 * q + (n + 1) ∧ L.length ≤ 8 * (q + 1))) := by show _ ∨ _; omega
      obtain ⟨wo, rfl⟩ : ∃ wo : World, wo = wr := ⟨_, rfl⟩
      obtain ⟨G, rfl⟩ : ∃ G : Nat, G = gk := ⟨_, rfl⟩
      have HO := Lib.hid hR.out
      have hn9 : n ≤ 7 := by omega
      clear hR hTA hn hnn h0
      go_wp2_with fail
      go_loopg [3, 20] (n + 1) (fun g2 o2 i wi => g2 ≤ n + 1 ∧ i = .int .i64 ((n + 1 - g2 : Nat) : Int) ∧ Hid (AllAt L w wi (8 * q + (n + 1 - g2)) o2 ∧ wi.heap[wo.heap.size]? = some (.cells #[S8 (txt L (8 * q)), .slice A n ct] 119 (0, 0))))
      case atStart => exact ⟨Nat.le_refl _, by simp, by rw [Nat.sub_self]; exact hnext⟩
      case round =>
        obtain ⟨hk2, rfl, hR2⟩ := hrel
        obtain ⟨o2, ho_⟩ : ∃ o, o = u3 := ⟨_, rfl⟩
        subst ho_
        obtain ⟨j, hjj⟩ : ∃ j, n + 1 - gk = j := ⟨_, rfl⟩
        rw [hjj] at hR2 ⊢
        have H2 := Lib.hid hR2.out
        clear hR2
        by_cases hk20 : gk = 0
        · obtain rfl : j = n + 1 := by omega
          go_wp2_with fail
          go_roundg (G - 1)
          case measure => omega
          case rel =>
            refine ⟨by omega, by rw [hgi.out]; congr 1, ?_⟩
            rw [hgi.out]
            have h := H2.out.1
            rcases hq9.out with e | e
            · rw [e] at h; exact h
            · exact h.over e.1 e.2
        · have hjn : j < n + 1 := by omega
          have hji : (j : Int) < (n : Int) + 1 := by omega
          have hjg : Hid (n + 1 - (gk - 1) = j + 1) := show _ = _ by omega
          have hx := text_any A n ct j (txt L (8 * q)) ((L.drop (8 * q + 1)).take 7) wr (HA.out.1.below H2.out.1.2) HA.out.2.1 (by omega) hnc hcm HA.out.2.2
          rw [txt_block L q j (by omega) (by omega)] at hx
          have Hx := Lib.hid hx
          clear hx
          have p0 : wr.cell? ⟨wo.heap.size, 0, none⟩ = some (S8 (txt L (8 * q))) := cell_of_row _ _ _ _ _ _ H2.out.2
          have p1 : wr.cell? ⟨wo.heap.size, 1, none⟩ = some (.slice A n ct) := cell_of_row _ _ _ _ _ _ H2.out.2
          obtain ⟨A3, C3, rfl⟩ := ownsRow_form H2.out.1.1
          have htl : (L.take (8 * q + j)).length ≤ 4096 := by rw [List.length_take]; omega
          have Hown := Lib.hid (show wr.ownsRow w.heap.size 9 1 _ _ _ from H2.out.1.1)
          generalize hTT : L.take (8 * q + j) = T at *
          have HTT := Lib.hid hTT
          clear hTT
          have hjl : 8 * q + j < L.length := by omega
          go_wp2_with fail
          refine Hx.out.mono ?_
          rintro e w3 ⟨rfl, hb3⟩
          have Hb3 := Lib.hid hb3
          clear hb3 p0 p1
          go_wp2_with (at_builtin; go_loud (refine wpList_append_one rfl (.tmp 23) (.tmp 27) 78 9 (.string ⟨#[]⟩) 16 rfl Try.underlying78 strInfo rfl w.heap.size (.slice A3 T.length C3) T.length (T.map S8) rfl (ownsRow_new Hown.out (nt Hb3.out (na (nr w3) _))) ⟨w3.heap.size, 0, none⟩ 1 (S8 (txt L (8 * q + j))) rfl (cell_of_row _ _ _ _ _ _ (heap_alloc_new w3 _)) rfl (by simp only [maxLen]; omega) (by omega) (by have := H2.out.1.2.size; have := Hb3.out.size; simp; omega) ?_)
                       intro g4 c4 w4 ho4 hg4 hat4
                       have h4 := H2.out.1.step hjl (na Hb3.out _) (by rw [HTT.out]; exact ho4) hg4
                       rw [HTT.out] at h4
                       have H4 := Lib.hid (And.intro h4 (((hg4.block wo.heap.size (by have := (Array.getElem?_eq_some_iff.1 H2.out.2).1; have := Hb3.out.size; simp; omega) (H2.out.1.other H2.out.2)).trans ((na Hb3.out _).block wo.heap.size (Array.getElem?_eq_some_iff.1 H2.out.2).1)).trans H2.out.2))
                       clear ho4 hg4 hat4 h4)
          go_roundg (gk - 1)
          case measure => omega
          case rel =>
            refine ⟨by omega, by rw [hjg.out]; congr 1, ?_⟩
            rw [hjg.out]
            exact H4.out
end Go.Proofs.Ytegpoghgddjmaaa
