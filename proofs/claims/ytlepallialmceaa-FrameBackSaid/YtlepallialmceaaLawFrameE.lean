/- The walk of the law FrameBack. -/
import Derived.Test.YtlepallialmceaaLawFrameA
import Derived.Test.YtlepallialmceaaBulk
namespace Go.Proofs.Ytlepallialmceaa
open Go.RowKit
set_option maxRecDepth 100000

theorem Rows.up {w : World} {B B' : Nat} {A : Option Addr} {ls : List (List UInt8)} (h : Rows w B A ls) (hB : B ≤ B') : Rows w B' A ls := fun h0 => by
  obtain ⟨b, off, e, hlt, hc⟩ := h h0
  refine ⟨b, off, e, by omega, fun i l hi => ?_⟩
  obtain ⟨A', c', h1, h2⟩ := hc i l hi
  exact ⟨A', c', h1, h2.more hB⟩
theorem Rows.take_ {w : World} {B : Nat} {A : Option Addr} {ls : List (List UInt8)} (h : Rows w B A ls) (k : Nat) : Rows w B A (ls.take k) := fun h0 => by
  rw [List.length_take] at h0
  obtain ⟨b, off, e, hlt, hc⟩ := h (by omega)
  refine ⟨b, off, e, hlt, fun i l hi => hc i l ?_⟩
  rw [List.getElem?_take] at hi
  split at hi
  · exact hi
  · cases hi
theorem intinfo : (Try.prog.info? 3).map (fun i => (i.zero, i.size, i.bytes)) = some (some (.int .i64 0), 1, 8) := by kernel_rfl
theorem frames_app (a b : List (List UInt8)) : frames (a ++ b) = frames a ++ frames b := by unfold frames; rw [List.flatMap_append]
theorem frames_snoc {ls : List (List UInt8)} {k : Nat} {p : List UInt8} (h : ls[k]? = some p) : frames (ls.take (k + 1)) = frames (ls.take k) ++ wrap p := by
  rw [take_one_more h]; unfold frames; rw [List.flatMap_append]; simp
/-- Where the first frames end, as the law's cells hold it. -/
def ends (ls : List (List UInt8)) (k : Nat) : List Value := (List.range k).map (fun j => .int .i64 (endOf ls (j + 1) : Nat))
theorem ends_snoc (ls : List (List UInt8)) (k : Nat) : ends ls (k + 1) = ends ls k ++ [.int .i64 (endOf ls (k + 1) : Nat)] := by
  unfold ends; rw [List.range_succ, List.map_append]; rfl
theorem row_form {w : World} {b e n : Nat} {v : Value} {xs : List Value} (h : w.ownsRow b e 1 v n xs) : ∃ A c, v = .slice A n c := by
  rcases h.2 with ⟨rfl, h0⟩ | ⟨g, cap, cur, rfl, _⟩
  · exact ⟨none, 0, by rw [h0]⟩
  · exact ⟨_, cap, rfl⟩
theorem row_same {w w' : World} {b e z n : Nat} {v : Value} {xs : List Value} (h : w.ownsRow b e z v n xs) (hb : ∀ q, b ≤ q → q < w.heap.size → w'.heap[q]? = w.heap[q]?) : w'.ownsRow b e z v n xs := by
  refine ⟨h.1, ?_⟩
  rcases h.2 with h0 | ⟨g, cap, cur, rfl, hbg, hg, r⟩
  · exact .inl h0
  · exact .inr ⟨g, cap, cur, rfl, hbg, (hb g hbg (Array.getElem?_eq_some_iff.1 hg).1).trans hg, r⟩
theorem OwnL.same {w w' : World} {base : Nat} {v : Value} {ls : List (List UInt8)} (h : OwnL w base v ls) (hb : ∀ q, base ≤ q → q < w.heap.size → w'.heap[q]? = w.heap[q]?) : OwnL w' base v ls := by
  obtain ⟨vs, h1, h2⟩ := h
  refine ⟨vs, row_same h1 hb, fun i l hi => ?_⟩
  obtain ⟨A, c, h3, h4⟩ := h2 i l hi
  exact ⟨A, c, h3, row_same h4 hb⟩
theorem ends_get (ls : List (List UInt8)) (k i : Nat) (h : i < k) : (ends ls k)[i]? = some (.int .i64 (endOf ls (i + 1) : Nat)) := by simp [ends, h]
/-- All frames joined, and where they end. -/
structure FW (w wr : World) (ls : List (List UInt8)) (k : Nat) (Aa Ae : Option Addr) (T ca ce : Nat) (F : List UInt8) : Prop where
  all : Own wr w.heap.size (.slice Aa T ca) F
  ends : wr.ownsRow w.heap.size 3 1 (.slice Ae k ce) k (ends ls k)
  below : Below w.heap.size w wr
theorem FW.new_ {w wr w' : World} {ls : List (List UInt8)} {k : Nat} {Aa Ae : Option Addr} {T ca ce : Nat} {F : List UInt8} (h : FW w wr ls k Aa Ae T ca ce F) (hb : Below wr.heap.size wr w') : FW w w' ls k Aa Ae T ca ce F :=
  ⟨h.all.new_ hb, ownsRow_new h.ends hb, h.below.trans (hb.mono h.below.size)⟩
/-- While the frames are overwritten. -/
structure ZW (w wr : World) (B : Nat) (Aa : Option Addr) (T ca : Nat) (v : Value) (gs : List (List UInt8)) : Prop where
  all : ∃ l : List UInt8, l.length = T ∧ Own wr w.heap.size (.slice Aa T ca) l
  got : OwnL wr B v gs
  below : Below w.heap.size w wr
  at_ : ∀ g off, Aa = some ⟨g, off, none⟩ → g < B
/-- The frames that are joined, and where they end: behind k payloads. -/
structure FB (w wr : World) (ls : List (List UInt8)) (k : Nat) (va ve : Value) : Prop where
  all : Own wr w.heap.size va (frames (ls.take k))
  ends : wr.ownsRow w.heap.size 3 1 ve k (ends ls k)
  below : Below w.heap.size w wr
set_option maxHeartbeats 8000000 in
theorem frameBack_law (A : Option Addr) (n cap : Nat) (ls : List (List UInt8)) (cut : Int) (w : World) (hA : Rows w w.heap.size A ls) (hn : ls.length = n) (hcap : n ≤ cap) (hcm : cap ≤ 9223372036854775807) (hc1 : -9223372036854775808 ≤ cut) (hc2 : cut ≤ 9223372036854775807) :
    Calls Try.prog 10 #[.slice A n cap, .int .i64 cut] w fun e w' => e = .returned (.bool true) ∧ Below w.heap.size w w' := by
  have Hn := Lib.hid hn
  have HA := Lib.hid hA
  clear hn hA
  go_enter Try.func10, Try.ntmps10
  go_wp2_with fail
  refine (awake04 w).mono ?_
  rintro e w1 ⟨rfl, hb1⟩
  have H1 := Lib.hid hb1
  clear hb1
  go_wp2_with fail
  refine (bulk_any A n cap ls w1 ((HA.out.below H1.out).up H1.out.size) Hn.out (by omega)).mono ?_
  rintro e w2 ⟨rfl, N, rfl, hN⟩
  by_cases hN3 : 3000 < N
  · have hN3i : (3000 : Int) < (N : Int) := by omega
    go_wp2_with fail
    go_ret
    exact ⟨rfl, H1.out⟩
  have hN3i : (N : Int) ≤ 3000 := by omega
  by_cases h60 : 60 < n
  · have h60i : (60 : Int) < (n : Int) := by omega
    go_wp2_with fail
    go_ret
    exact ⟨rfl, H1.out⟩
  have h60i : (n : Int) ≤ 60 := by omega
  have hS := Lib.hid (bulk_small ls (by omega))
  have hS2 : Hid (bulk ls ≤ 3000) := show _ ≤ _ by omega
  clear hN
  go_wp2_with fail
  clear hN3i hN3
  go_loopw [5, 6, 7] (fun va ve i wr => ∃ k : Nat, k ≤ n ∧ i = .int .i64 k ∧ Hid (FB w wr ls k va ve)) (fun va ve i _ => n - (intOf i).toNat)
  case atStart => exact ⟨0, Nat.zero_le _, rfl, Own.nil_ _ _, World.ownsRow_nil _ _ _ _, H1.out⟩
  case round =>
    obtain ⟨k, hk, rfl, hF⟩ := hrel
    by_cases hend : k = n
    · subst hend
      obtain ⟨Ae, ce, rfl⟩ := row_form hF.out.ends
      obtain ⟨Aa, ca, rfl, _⟩ := Own.form hF.out.all
      have hFl : ls.take k = ls := List.take_of_length_le (by rw [Hn.out]; omega)
      have hTl := hS.out.1
      have hbk : bulk ls ≤ 3000 := hS2.out
      have hall := hF.out.all
      have hends := hF.out.ends
      have hbel := hF.out.below
      rw [hFl] at hall ⊢
      clear hF
      have hcapa := hall.cap
      have hcmm := hall.capm
      obtain ⟨F, hFe⟩ : ∃ F, frames ls = F := ⟨_, rfl⟩
      rw [hFe] at hTl hcapa hall ⊢
      have HFe := Lib.hid hFe
      obtain ⟨T, hT⟩ : ∃ T, F.length = T := ⟨_, rfl⟩
      rw [hT] at hTl hcapa hall ⊢
      have HT := Lib.hid hT
      have HW := Lib.hid (And.intro hall (And.intro hends hbel))
      clear hT hFe hFl hall hends hbel
      by_cases hc0 : cut < 0
      · as_aux_lemma =>
          go_wp2_with fail
          obtain ⟨K, hK⟩ : ∃ K, wholes ls T = K := ⟨_, rfl⟩
          have hKk : K ≤ k := by rw [← hK, ← Hn.out]; exact wholes_le ls T
          have Hiff : Hid (∀ i, i < k → (endOf ls (i + 1) ≤ T ↔ i < K)) := fun i hi => by rw [← hK]; exact endOf_iff ls T i (by rw [Hn.out]; exact hi)
          have HK := Lib.hid hK
          clear hK
          go_loopw [10, 11, 12] (fun cnt en ix wx => ∃ i : Nat, i ≤ k ∧ ix = .int .i64 i ∧ cnt = .int .i64 (min i K : Nat) ∧ en = .int .i64 (endOf ls (min i K) : Nat) ∧ Hid (FW w wx ls k Aa Ae T ca ce F)) (fun _ _ ix _ => k - (intOf ix).toNat)
          case atStart => exact ⟨0, Nat.zero_le _, rfl, by rw [Nat.zero_min]; rfl, by rw [Nat.zero_min]; rfl, HW.out.1, HW.out.2.1, HW.out.2.2⟩
          case round =>
            obtain ⟨i, hi, rfl, rfl, rfl, hR⟩ := hrel
            by_cases hik : i = k
            · subst hik
              rw [Nat.min_eq_right hKk]
              obtain ⟨E1, hE1⟩ : ∃ x, endOf ls K = x := ⟨_, rfl⟩
              rw [hE1]
              have HE1 := Lib.hid hE1
              clear hE1
              have hsc : Hid (scan (F.take T) = (ls.take K, E1, if E1 = T then 0 else 2)) := by
                have h := scan_frames ls T (fun p hp => by have := hS.out.2.2 p hp; omega) (by rw [HFe.out, HT.out]; omega)
                rw [HFe.out, HK.out, HE1.out] at h
                exact h
              have hKl : Hid ((ls.take K).length = K) := show _ = _ by rw [List.length_take, Hn.out]; omega
              have Hf := Lib.hid (scan_any Aa T ca (F.take T) wr (hR.out.all.bytes.1.take T) (by rw [List.length_take, HT.out]; omega) (by omega) (by omega) hcmm)
              have hE1T : E1 ≤ 40000 := by
                have h := HE1.out
                unfold endOf at h
                have h3 : (frames ls).length = (frames (ls.take K)).length + (frames (ls.drop K)).length := by
                  rw [← List.length_append, ← frames_app, List.take_append_drop]
                rw [HFe.out, HT.out] at h3
                omega
              go_wp2_with fail
              refine Hf.out.mono ?_
              rintro e w5 ⟨v, rfl, hL, hb5⟩
              rw [hsc.out] at hL ⊢
              simp only at hL ⊢
              obtain ⟨er, her⟩ : ∃ x : Int, (if E1 = T then 0 else 2) = x := ⟨_, rfl⟩
              rw [her]
              have Her := Lib.hid her
              clear her
              obtain ⟨Ag, cg, rfl⟩ := hL.form
              rw [hKl.out] at hL ⊢
              have HZ : Hid (ZW w w5 wr.heap.size Aa T ca (.slice Ag K cg) (ls.take K)) :=
                ⟨⟨F, HT.out, hR.out.all.new_ hb5⟩, hL, hR.out.below.trans (hb5.mono hR.out.below.size), fun g off e => by subst e; exact (World.ownsRow.lt hR.out.all g rfl).2⟩
              clear hL hb5 hR Hf
              generalize wr.heap.size = B at *
              go_wp2_with fail
              go_loopw [16] (fun ix wx => ∃ j : Nat, j ≤ T ∧ ix = .int .i64 j ∧ Hid (ZW w wx B Aa T ca (.slice Ag K cg) (ls.take K))) (fun ix _ => T - (intOf ix).toNat)
              case atStart => exact ⟨0, Nat.zero_le _, rfl, HZ⟩
              case round =>
                obtain ⟨j, hj, rfl, hZ⟩ := hrel
                by_cases hjT : j = T
                · as_aux_lemma =>
                    have hcase : (((E1 : Int) == (T : Int)) = true ∧ er = 0) ∨ (((E1 : Int) == (T : Int)) = false ∧ er = 2) := by
                      have h := Her.out
                      by_cases hq : E1 = T
                      · rw [if_pos hq] at h
                        exact .inl ⟨by rw [beq_iff_eq]; omega, h.symm⟩
                      · rw [if_neg hq] at h
                        exact .inr ⟨by rw [beq_eq_false_iff_ne]; omega, h.symm⟩
                    subst hjT
                    have hgr : Rows wr wr.heap.size Ag (ls.take K) := by
                      obtain ⟨A', c', hv, hr⟩ := hZ.out.got.rows
                      injection hv with hv1
                      rw [hv1]; exact hr
                    have hlr : Rows wr wr.heap.size A (ls.take K) := ((HA.out.below hZ.out.below).up hZ.out.below.size).take_ K
                    have hbl := hZ.out.below
                    have hcapK : K ≤ cap := by omega
                    clear hZ
                    go_wp2_with fail
                    refine (rsame_any Ag A K K cg cap (ls.take K) (ls.take K) wr hgr hlr hKl.out hKl.out (by omega) (by omega)).mono ?_
                    rintro e w7 ⟨rfl, hb7⟩
                    rw [decide_eq_true (rfl : ls.take K = ls.take K)]
                    have hB7 := Lib.hid (hbl.trans (hb7.mono hbl.size))
                    clear hgr hlr hbl hb7
                    rcases hcase with ⟨hq, rfl⟩ | ⟨hq, rfl⟩
                    · go_wp2_with fail
                      go_ret
                      exact ⟨rfl, hB7.out⟩
                    · go_wp2_with fail
                      go_ret
                      exact ⟨rfl, hB7.out⟩
                · as_aux_lemma =>
                    obtain ⟨l', hl', ho'⟩ := hZ.out.all
                    obtain ⟨g, ca', hv, hgB, _⟩ := World.ownsRow.form ho' (by omega)
                    injection hv with hv1 _ hv3
                    subst hv1
                    subst hv3
                    have ho2 : Own wr w.heap.size (.slice (some ⟨g, 0, none⟩) l'.length ca) l' := by rw [hl']; exact ho'
                    obtain ⟨x, hx⟩ : ∃ x, l'[j]? = some x := ⟨_, List.getElem?_eq_getElem (by omega)⟩
                    have hc := ho2.cell hx
                    have hf := ho2.free j
                    have hset := ho2.set_ j 0
                    rw [List.length_set, hl'] at hset
                    have hgb := hZ.out.at_ g 0 rfl
                    have HN : Hid (ZW w (wr.setCell ⟨g, j, none⟩ (B8 0)) B (some ⟨g, 0, none⟩) T ca (.slice Ag K cg) (ls.take K)) :=
                      ⟨⟨l'.set j 0, by rw [List.length_set]; exact hl', hset⟩, hZ.out.got.same (fun q hq _ => Below.heap_setCell _ _ _ _ (show q ≠ g by omega)), hZ.out.below.setCell hgB _, hZ.out.at_⟩
                    clear ho' ho2 hset hZ hx hl'
                    go_wp2_with fail
                    go_roundw
                    case rel => exact ⟨j + 1, by omega, by go_num, HN⟩
                    case measure => simp [intOf]; omega
            · as_aux_lemma =>
                have hlt : i < k := by omega
                have hiff := Hiff.out i hlt
                obtain ⟨ge, cape, hve, _⟩ := World.ownsRow.form hR.out.ends (by omega)
                injection hve with hv1 _ hv3
                subst hv1
                subst hv3
                have hcell := World.ownsRow.cellAt hR.out.ends i (by omega)
                rw [ends_get ls k i hlt] at hcell
                by_cases hw : i < K
                · have h1 := hiff.2 hw
                  have e1 : min (i + 1) K = i + 1 := Nat.min_eq_left (by omega)
                  have E1 := Lib.hid e1
                  obtain ⟨en', hen⟩ : ∃ x, endOf ls (i + 1) = x := ⟨_, rfl⟩
                  rw [hen] at hcell h1
                  have Hen := Lib.hid hen
                  clear hen e1 hiff
                  obtain ⟨cn, hcn⟩ : ∃ x, min i K = x := ⟨_, rfl⟩
                  rw [hcn]
                  obtain ⟨ec, hec⟩ : ∃ x, endOf ls cn = x := ⟨_, rfl⟩
                  rw [hec]
                  clear hcn hec
                  have h1i : (en' : Int) ≤ (T : Int) := by omega
                  go_wp2_with fail
                  go_region
                  go_wp2_with fail
                  go_roundw
                  case rel => exact ⟨i + 1, by omega, by go_num, by rw [E1.out]; go_num, by rw [E1.out, Hen.out], hR.out.new_ (nd (nr _))⟩
                  case measure => simp [intOf]; omega
                · have h1 : ¬ endOf ls (i + 1) ≤ T := fun h => hw (hiff.1 h)
                  have e1 : min (i + 1) K = min i K := by omega
                  have E1 := Lib.hid e1
                  obtain ⟨en', hen⟩ : ∃ x, endOf ls (i + 1) = x := ⟨_, rfl⟩
                  rw [hen] at hcell h1
                  have Hen := Lib.hid hen
                  clear hen e1 hiff
                  obtain ⟨cn, hcn⟩ : ∃ x, min i K = x := ⟨_, rfl⟩
                  rw [hcn] at E1 ⊢
                  obtain ⟨ec, hec⟩ : ∃ x, endOf ls cn = x := ⟨_, rfl⟩
                  rw [hec]
                  have Hec := Lib.hid hec
                  clear hcn hec
                  have h1i : (T : Int) < (en' : Int) := by omega
                  go_wp2_with fail
                  go_roundw
                  case rel => exact ⟨i + 1, by omega, by go_num, by rw [E1.out], by rw [E1.out, Hec.out], hR⟩
                  case measure => simp [intOf]; omega
      have hc0' : 0 ≤ cut := by omega
      by_cases hct : (T : Int) < cut
      · as_aux_lemma =>
          go_wp2_with fail
          obtain ⟨K, hK⟩ : ∃ K, wholes ls T = K := ⟨_, rfl⟩
          have hKk : K ≤ k := by rw [← hK, ← Hn.out]; exact wholes_le ls T
          have Hiff : Hid (∀ i, i < k → (endOf ls (i + 1) ≤ T ↔ i < K)) := fun i hi => by rw [← hK]; exact endOf_iff ls T i (by rw [Hn.out]; exact hi)
          have HK := Lib.hid hK
          clear hK
          go_loopw [10, 11, 12] (fun cnt en ix wx => ∃ i : Nat, i ≤ k ∧ ix = .int .i64 i ∧ cnt = .int .i64 (min i K : Nat) ∧ en = .int .i64 (endOf ls (min i K) : Nat) ∧ Hid (FW w wx ls k Aa Ae T ca ce F)) (fun _ _ ix _ => k - (intOf ix).toNat)
          case atStart => exact ⟨0, Nat.zero_le _, rfl, by rw [Nat.zero_min]; rfl, by rw [Nat.zero_min]; rfl, HW.out.1, HW.out.2.1, HW.out.2.2⟩
          case round =>
            obtain ⟨i, hi, rfl, rfl, rfl, hR⟩ := hrel
            by_cases hik : i = k
            · subst hik
              rw [Nat.min_eq_right hKk]
              obtain ⟨E1, hE1⟩ : ∃ x, endOf ls K = x := ⟨_, rfl⟩
              rw [hE1]
              have HE1 := Lib.hid hE1
              clear hE1
              have hsc : Hid (scan (F.take T) = (ls.take K, E1, if E1 = T then 0 else 2)) := by
                have h := scan_frames ls T (fun p hp => by have := hS.out.2.2 p hp; omega) (by rw [HFe.out, HT.out]; omega)
                rw [HFe.out, HK.out, HE1.out] at h
                exact h
              have hKl : Hid ((ls.take K).length = K) := show _ = _ by rw [List.length_take, Hn.out]; omega
              have Hf := Lib.hid (scan_any Aa T ca (F.take T) wr (hR.out.all.bytes.1.take T) (by rw [List.length_take, HT.out]; omega) (by omega) (by omega) hcmm)
              have hE1T : E1 ≤ 40000 := by
                have h := HE1.out
                unfold endOf at h
                have h3 : (frames ls).length = (frames (ls.take K)).length + (frames (ls.drop K)).length := by
                  rw [← List.length_append, ← frames_app, List.take_append_drop]
                rw [HFe.out, HT.out] at h3
                omega
              go_wp2_with fail
              refine Hf.out.mono ?_
              rintro e w5 ⟨v, rfl, hL, hb5⟩
              rw [hsc.out] at hL ⊢
              simp only at hL ⊢
              obtain ⟨er, her⟩ : ∃ x : Int, (if E1 = T then 0 else 2) = x := ⟨_, rfl⟩
              rw [her]
              have Her := Lib.hid her
              clear her
              obtain ⟨Ag, cg, rfl⟩ := hL.form
              rw [hKl.out] at hL ⊢
              have HZ : Hid (ZW w w5 wr.heap.size Aa T ca (.slice Ag K cg) (ls.take K)) :=
                ⟨⟨F, HT.out, hR.out.all.new_ hb5⟩, hL, hR.out.below.trans (hb5.mono hR.out.below.size), fun g off e => by subst e; exact (World.ownsRow.lt hR.out.all g rfl).2⟩
              clear hL hb5 hR Hf
              generalize wr.heap.size = B at *
              go_wp2_with fail
              go_loopw [16] (fun ix wx => ∃ j : Nat, j ≤ T ∧ ix = .int .i64 j ∧ Hid (ZW w wx B Aa T ca (.slice Ag K cg) (ls.take K))) (fun ix _ => T - (intOf ix).toNat)
              case atStart => exact ⟨0, Nat.zero_le _, rfl, HZ⟩
              case round =>
                obtain ⟨j, hj, rfl, hZ⟩ := hrel
                by_cases hjT : j = T
                · as_aux_lemma =>
                    have hcase : (((E1 : Int) == (T : Int)) = true ∧ er = 0) ∨ (((E1 : Int) == (T : Int)) = false ∧ er = 2) := by
                      have h := Her.out
                      by_cases hq : E1 = T
                      · rw [if_pos hq] at h
                        exact .inl ⟨by rw [beq_iff_eq]; omega, h.symm⟩
                      · rw [if_neg hq] at h
                        exact .inr ⟨by rw [beq_eq_false_iff_ne]; omega, h.symm⟩
                    subst hjT
                    have hgr : Rows wr wr.heap.size Ag (ls.take K) := by
                      obtain ⟨A', c', hv, hr⟩ := hZ.out.got.rows
                      injection hv with hv1
                      rw [hv1]; exact hr
                    have hlr : Rows wr wr.heap.size A (ls.take K) := ((HA.out.below hZ.out.below).up hZ.out.below.size).take_ K
                    have hbl := hZ.out.below
                    have hcapK : K ≤ cap := by omega
                    clear hZ
                    go_wp2_with fail
                    refine (rsame_any Ag A K K cg cap (ls.take K) (ls.take K) wr hgr hlr hKl.out hKl.out (by omega) (by omega)).mono ?_
                    rintro e w7 ⟨rfl, hb7⟩
                    rw [decide_eq_true (rfl : ls.take K = ls.take K)]
                    have hB7 := Lib.hid (hbl.trans (hb7.mono hbl.size))
                    clear hgr hlr hbl hb7
                    rcases hcase with ⟨hq, rfl⟩ | ⟨hq, rfl⟩
                    · go_wp2_with fail
                      go_ret
                      exact ⟨rfl, hB7.out⟩
                    · go_wp2_with fail
                      go_ret
                      exact ⟨rfl, hB7.out⟩
                · as_aux_lemma =>
                    obtain ⟨l', hl', ho'⟩ := hZ.out.all
                    obtain ⟨g, ca', hv, hgB, _⟩ := World.ownsRow.form ho' (by omega)
                    injection hv with hv1 _ hv3
                    subst hv1
                    subst hv3
                    have ho2 : Own wr w.heap.size (.slice (some ⟨g, 0, none⟩) l'.length ca) l' := by rw [hl']; exact ho'
                    obtain ⟨x, hx⟩ : ∃ x, l'[j]? = some x := ⟨_, List.getElem?_eq_getElem (by omega)⟩
                    have hc := ho2.cell hx
                    have hf := ho2.free j
                    have hset := ho2.set_ j 0
                    rw [List.length_set, hl'] at hset
                    have hgb := hZ.out.at_ g 0 rfl
                    have HN : Hid (ZW w (wr.setCell ⟨g, j, none⟩ (B8 0)) B (some ⟨g, 0, none⟩) T ca (.slice Ag K cg) (ls.take K)) :=
                      ⟨⟨l'.set j 0, by rw [List.length_set]; exact hl', hset⟩, hZ.out.got.same (fun q hq _ => Below.heap_setCell _ _ _ _ (show q ≠ g by omega)), hZ.out.below.setCell hgB _, hZ.out.at_⟩
                    clear ho' ho2 hset hZ hx hl'
                    go_wp2_with fail
                    go_roundw
                    case rel => exact ⟨j + 1, by omega, by go_num, HN⟩
                    case measure => simp [intOf]; omega
            · as_aux_lemma =>
                have hlt : i < k := by omega
                have hiff := Hiff.out i hlt
                obtain ⟨ge, cape, hve, _⟩ := World.ownsRow.form hR.out.ends (by omega)
                injection hve with hv1 _ hv3
                subst hv1
                subst hv3
                have hcell := World.ownsRow.cellAt hR.out.ends i (by omega)
                rw [ends_get ls k i hlt] at hcell
                by_cases hw : i < K
                · have h1 := hiff.2 hw
                  have e1 : min (i + 1) K = i + 1 := Nat.min_eq_left (by omega)
                  have E1 := Lib.hid e1
                  obtain ⟨en', hen⟩ : ∃ x, endOf ls (i + 1) = x := ⟨_, rfl⟩
                  rw [hen] at hcell h1
                  have Hen := Lib.hid hen
                  clear hen e1 hiff
                  obtain ⟨cn, hcn⟩ : ∃ x, min i K = x := ⟨_, rfl⟩
                  rw [hcn]
                  obtain ⟨ec, hec⟩ : ∃ x, endOf ls cn = x := ⟨_, rfl⟩
                  rw [hec]
                  clear hcn hec
                  have h1i : (en' : Int) ≤ (T : Int) := by omega
                  go_wp2_with fail
                  go_region
                  go_wp2_with fail
                  go_roundw
                  case rel => exact ⟨i + 1, by omega, by go_num, by rw [E1.out]; go_num, by rw [E1.out, Hen.out], hR.out.new_ (nd (nr _))⟩
                  case measure => simp [intOf]; omega
                · have h1 : ¬ endOf ls (i + 1) ≤ T := fun h => hw (hiff.1 h)
                  have e1 : min (i + 1) K = min i K := by omega
                  have E1 := Lib.hid e1
                  obtain ⟨en', hen⟩ : ∃ x, endOf ls (i + 1) = x := ⟨_, rfl⟩
                  rw [hen] at hcell h1
                  have Hen := Lib.hid hen
                  clear hen e1 hiff
                  obtain ⟨cn, hcn⟩ : ∃ x, min i K = x := ⟨_, rfl⟩
                  rw [hcn] at E1 ⊢
                  obtain ⟨ec, hec⟩ : ∃ x, endOf ls cn = x := ⟨_, rfl⟩
                  rw [hec]
                  have Hec := Lib.hid hec
                  clear hcn hec
                  have h1i : (T : Int) < (en' : Int) := by omega
                  go_wp2_with fail
                  go_roundw
                  case rel => exact ⟨i + 1, by omega, by go_num, by rw [E1.out], by rw [E1.out, Hec.out], hR⟩
                  case measure => simp [intOf]; omega
      · as_aux_lemma =>
          obtain ⟨C, rfl⟩ := Int.eq_ofNat_of_zero_le hc0'
          have hCT : (C : Int) ≤ (T : Int) := by omega
          go_wp2_with fail
          obtain ⟨K, hK⟩ : ∃ K, wholes ls C = K := ⟨_, rfl⟩
          have hKk : K ≤ k := by rw [← hK, ← Hn.out]; exact wholes_le ls C
          have Hiff : Hid (∀ i, i < k → (endOf ls (i + 1) ≤ C ↔ i < K)) := fun i hi => by rw [← hK]; exact endOf_iff ls C i (by rw [Hn.out]; exact hi)
          have HK := Lib.hid hK
          clear hK
          go_loopw [10, 11, 12] (fun cnt en ix wx => ∃ i : Nat, i ≤ k ∧ ix = .int .i64 i ∧ cnt = .int .i64 (min i K : Nat) ∧ en = .int .i64 (endOf ls (min i K) : Nat) ∧ Hid (FW w wx ls k Aa Ae T ca ce F)) (fun _ _ ix _ => k - (intOf ix).toNat)
          case atStart => exact ⟨0, Nat.zero_le _, rfl, by rw [Nat.zero_min]; rfl, by rw [Nat.zero_min]; rfl, HW.out.1, HW.out.2.1, HW.out.2.2⟩
          case round =>
            obtain ⟨i, hi, rfl, rfl, rfl, hR⟩ := hrel
            by_cases hik : i = k
            · subst hik
              rw [Nat.min_eq_right hKk]
              obtain ⟨E1, hE1⟩ : ∃ x, endOf ls K = x := ⟨_, rfl⟩
              rw [hE1]
              have HE1 := Lib.hid hE1
              clear hE1
              have hsc : Hid (scan (F.take C) = (ls.take K, E1, if E1 = C then 0 else 2)) := by
                have h := scan_frames ls C (fun p hp => by have := hS.out.2.2 p hp; omega) (by rw [HFe.out, HT.out]; omega)
                rw [HFe.out, HK.out, HE1.out] at h
                exact h
              have hKl : Hid ((ls.take K).length = K) := show _ = _ by rw [List.length_take, Hn.out]; omega
              have Hf := Lib.hid (scan_any Aa C ca (F.take C) wr (hR.out.all.bytes.1.take C) (by rw [List.length_take, HT.out]; omega) (by omega) (by omega) hcmm)
              have hE1T : E1 ≤ 40000 := by
                have h := HE1.out
                unfold endOf at h
                have h3 : (frames ls).length = (frames (ls.take K)).length + (frames (ls.drop K)).length := by
                  rw [← List.length_append, ← frames_app, List.take_append_drop]
                rw [HFe.out, HT.out] at h3
                omega
              go_wp2_with fail
              refine Hf.out.mono ?_
              rintro e w5 ⟨v, rfl, hL, hb5⟩
              rw [hsc.out] at hL ⊢
              simp only at hL ⊢
              obtain ⟨er, her⟩ : ∃ x : Int, (if E1 = C then 0 else 2) = x := ⟨_, rfl⟩
              rw [her]
              have Her := Lib.hid her
              clear her
              obtain ⟨Ag, cg, rfl⟩ := hL.form
              rw [hKl.out] at hL ⊢
              have HZ : Hid (ZW w w5 wr.heap.size Aa T ca (.slice Ag K cg) (ls.take K)) :=
                ⟨⟨F, HT.out, hR.out.all.new_ hb5⟩, hL, hR.out.below.trans (hb5.mono hR.out.below.size), fun g off e => by subst e; exact (World.ownsRow.lt hR.out.all g rfl).2⟩
              clear hL hb5 hR Hf
              generalize wr.heap.size = B at *
              go_wp2_with fail
              go_loopw [16] (fun ix wx => ∃ j : Nat, j ≤ T ∧ ix = .int .i64 j ∧ Hid (ZW w wx B Aa T ca (.slice Ag K cg) (ls.take K))) (fun ix _ => T - (intOf ix).toNat)
              case atStart => exact ⟨0, Nat.zero_le _, rfl, HZ⟩
              case round =>
                obtain ⟨j, hj, rfl, hZ⟩ := hrel
                by_cases hjT : j = T
                · as_aux_lemma =>
                    have hcase : (((E1 : Int) == (C : Int)) = true ∧ er = 0) ∨ (((E1 : Int) == (C : Int)) = false ∧ er = 2) := by
                      have h := Her.out
                      by_cases hq : E1 = C
                      · rw [if_pos hq] at h
                        exact .inl ⟨by rw [beq_iff_eq]; omega, h.symm⟩
                      · rw [if_neg hq] at h
                        exact .inr ⟨by rw [beq_eq_false_iff_ne]; omega, h.symm⟩
                    subst hjT
                    have hgr : Rows wr wr.heap.size Ag (ls.take K) := by
                      obtain ⟨A', c', hv, hr⟩ := hZ.out.got.rows
                      injection hv with hv1
                      rw [hv1]; exact hr
                    have hlr : Rows wr wr.heap.size A (ls.take K) := ((HA.out.below hZ.out.below).up hZ.out.below.size).take_ K
                    have hbl := hZ.out.below
                    have hcapK : K ≤ cap := by omega
                    clear hZ
                    go_wp2_with fail
                    refine (rsame_any Ag A K K cg cap (ls.take K) (ls.take K) wr hgr hlr hKl.out hKl.out (by omega) (by omega)).mono ?_
                    rintro e w7 ⟨rfl, hb7⟩
                    rw [decide_eq_true (rfl : ls.take K = ls.take K)]
                    have hB7 := Lib.hid (hbl.trans (hb7.mono hbl.size))
                    clear hgr hlr hbl hb7
                    rcases hcase with ⟨hq, rfl⟩ | ⟨hq, rfl⟩
                    · go_wp2_with fail
                      go_ret
                      exact ⟨rfl, hB7.out⟩
                    · go_wp2_with fail
                      go_ret
                      exact ⟨rfl, hB7.out⟩
                · as_aux_lemma =>
                    obtain ⟨l', hl', ho'⟩ := hZ.out.all
                    obtain ⟨g, ca', hv, hgB, _⟩ := World.ownsRow.form ho' (by omega)
                    injection hv with hv1 _ hv3
                    subst hv1
                    subst hv3
                    have ho2 : Own wr w.heap.size (.slice (some ⟨g, 0, none⟩) l'.length ca) l' := by rw [hl']; exact ho'
                    obtain ⟨x, hx⟩ : ∃ x, l'[j]? = some x := ⟨_, List.getElem?_eq_getElem (by omega)⟩
                    have hc := ho2.cell hx
                    have hf := ho2.free j
                    have hset := ho2.set_ j 0
                    rw [List.length_set, hl'] at hset
                    have hgb := hZ.out.at_ g 0 rfl
                    have HN : Hid (ZW w (wr.setCell ⟨g, j, none⟩ (B8 0)) B (some ⟨g, 0, none⟩) T ca (.slice Ag K cg) (ls.take K)) :=
                      ⟨⟨l'.set j 0, by rw [List.length_set]; exact hl', hset⟩, hZ.out.got.same (fun q hq _ => Below.heap_setCell _ _ _ _ (show q ≠ g by omega)), hZ.out.below.setCell hgB _, hZ.out.at_⟩
                    clear ho' ho2 hset hZ hx hl'
                    go_wp2_with fail
                    go_roundw
                    case rel => exact ⟨j + 1, by omega, by go_num, HN⟩
                    case measure => simp [intOf]; omega
            · as_aux_lemma =>
                have hlt : i < k := by omega
                have hiff := Hiff.out i hlt
                obtain ⟨ge, cape, hve, _⟩ := World.ownsRow.form hR.out.ends (by omega)
                injection hve with hv1 _ hv3
                subst hv1
                subst hv3
                have hcell := World.ownsRow.cellAt hR.out.ends i (by omega)
                rw [ends_get ls k i hlt] at hcell
                by_cases hw : i < K
                · have h1 := hiff.2 hw
                  have e1 : min (i + 1) K = i + 1 := Nat.min_eq_left (by omega)
                  have E1 := Lib.hid e1
                  obtain ⟨en', hen⟩ : ∃ x, endOf ls (i + 1) = x := ⟨_, rfl⟩
                  rw [hen] at hcell h1
                  have Hen := Lib.hid hen
                  clear hen e1 hiff
                  obtain ⟨cn, hcn⟩ : ∃ x, min i K = x := ⟨_, rfl⟩
                  rw [hcn]
                  obtain ⟨ec, hec⟩ : ∃ x, endOf ls cn = x := ⟨_, rfl⟩
                  rw [hec]
                  clear hcn hec
                  have h1i : (en' : Int) ≤ (C : Int) := by omega
                  go_wp2_with fail
                  go_region
                  go_wp2_with fail
                  go_roundw
                  case rel => exact ⟨i + 1, by omega, by go_num, by rw [E1.out]; go_num, by rw [E1.out, Hen.out], hR.out.new_ (nd (nr _))⟩
                  case measure => simp [intOf]; omega
                · have h1 : ¬ endOf ls (i + 1) ≤ C := fun h => hw (hiff.1 h)
                  have e1 : min (i + 1) K = min i K := by omega
                  have E1 := Lib.hid e1
                  obtain ⟨en', hen⟩ : ∃ x, endOf ls (i + 1) = x := ⟨_, rfl⟩
                  rw [hen] at hcell h1
                  have Hen := Lib.hid hen
                  clear hen e1 hiff
                  obtain ⟨cn, hcn⟩ : ∃ x, min i K = x := ⟨_, rfl⟩
                  rw [hcn] at E1 ⊢
                  obtain ⟨ec, hec⟩ : ∃ x, endOf ls cn = x := ⟨_, rfl⟩
                  rw [hec]
                  have Hec := Lib.hid hec
                  clear hcn hec
                  have h1i : (C : Int) < (en' : Int) := by omega
                  go_wp2_with fail
                  go_roundw
                  case rel => exact ⟨i + 1, by omega, by go_num, by rw [E1.out], by rw [E1.out, Hec.out], hR⟩
                  case measure => simp [intOf]; omega
    · as_aux_lemma =>
        have hlt : k < n := by omega
        obtain ⟨b1, o1, p1, P1, d1, rfl, hB1, hp1, hx1, hy1⟩ := (HA.out.below hF.out.below).at_ (k := k) (by rw [Hn.out]; exact hlt)
        have hpm : p1.length ≤ 3000 := hS.out.2.2 p1 (List.mem_of_getElem? hp1)
        have Hp := Lib.hid (frames_snoc hp1)
        have Hx := Lib.hid hy1
        clear hp1 hy1
        obtain ⟨Ae, ce, rfl⟩ := row_form hF.out.ends
        obtain ⟨Aa, ca, rfl, _⟩ := Own.form hF.out.all
        have hkk : (frames (ls.take k)).length ≤ 30000 := by
          have h1 := hS.out.1
          have h2 := hS2.out
          have h3 : (frames ls).length = (frames (ls.take k)).length + (frames (ls.drop k)).length := by
            rw [← List.length_append, ← frames_app, List.take_append_drop]
          omega
        go_wp2_with fail
        refine (wrap_any P1 d1 p1.length p1 wr ((Hx.out.more hF.out.below.size)) rfl (by omega)).mono ?_
        rintro e w3 ⟨A3, c3, rfl, ho3, hb3⟩
        have hwl := wrap_length p1
        have hb' := hF.out.below.trans (hb3.mono hF.out.below.size)
        have H3 := Lib.hid (And.intro (hF.out.all.new_ hb3) (And.intro (ownsRow_new hF.out.ends hb3) hb'))
        have Ho := Lib.hid ho3.bytes.1
        clear ho3 hb3 hF hb'
        have hE1 := Lib.hid (show (frames (ls.take k)).length + (9 + p1.length) = endOf ls (k + 1) by unfold endOf; rw [Hp.out, List.length_append, wrap_length])
        obtain ⟨F, hF⟩ : ∃ F, frames (ls.take k) = F := ⟨_, rfl⟩
        rw [hF] at H3 Hp hE1 hkk ⊢
        clear hF
        go_wp2_with (at_builtin; go_loud (first
          | (refine wpList_append_bytes_form rfl (.tmp 43) (.tmp 44) rfl w.heap.size (.slice Aa F.length ca) F rfl H3.out.1 _ A3 c3 (wrap p1) (congrArg (fun q => Value.slice A3 q c3) hwl.symm) Ho.out (by omega) H3.out.2.2.size ?_
             intro A4 c4 w4 ho4 hg4 hat4
             have hends := World.ownsRow.kept H3.out.2.1 hg4 (rows_apart H3.out.2.1 H3.out.1 (by decide))
             have hbel := H3.out.2.2.grown hg4 H3.out.2.2.size (fun q e => (World.ownsRow.lt H3.out.1 q e).1)
             have H4 := Lib.hid (And.intro ho4 (And.intro hends hbel))
             clear ho4 hg4 hat4 hends hbel)
          | (refine wpList_append_one rfl (.tmp 46) (.tmp 49) 52 3 (.int .i64 0) 8 rfl Try.underlying52 intinfo rfl w.heap.size (.slice Ae k ce) k (ends ls k) rfl (World.ownsRow.alloc H4.out.2.1 _) ⟨w4.heap.size, 0, none⟩ 1 (.int .i64 ((F.length : Int) + (9 + (p1.length : Int)))) rfl (by simp [go_sem]) rfl (by simp only [maxLen]; omega) (by omega) (na H4.out.2.2 _).size ?_
             intro g5 c5 w5 hr5 hg5 hat5
             have hall := World.ownsRow.kept (World.ownsRow.alloc H4.out.1 (.cells #[.int .i64 ((F.length : Int) + (9 + (p1.length : Int)))] 3)) hg5 (rows_apart (World.ownsRow.alloc H4.out.1 (.cells #[.int .i64 ((F.length : Int) + (9 + (p1.length : Int)))] 3)) (World.ownsRow.alloc H4.out.2.1 _) (by decide))
             have hbel5 := (na H4.out.2.2 (.cells #[.int .i64 ((F.length : Int) + (9 + (p1.length : Int)))] 3)).grown hg5 (na H4.out.2.2 _).size (fun q e => (World.ownsRow.lt H4.out.2.1 q e).1)
             have H5 := Lib.hid (And.intro hall (And.intro hr5 hbel5))
             clear hr5 hg5 hat5 hall hbel5)))
        refine ⟨⟨k + 1, by omega, by go_num, ?_⟩, by simp [intOf]; omega⟩
        refine ⟨?_, ?_, H5.out.2.2⟩
        · rw [Hp.out]
          have h := H5.out.1
          have e : (F ++ wrap p1).length = F.length + (9 + p1.length) := by rw [List.length_append, wrap_length]
          unfold Own
          rw [e] at h ⊢
          exact h
        · rw [ends_snoc, ← hE1.out]
          have e : ((F.length + (9 + p1.length) : Nat) : Int) = (F.length : Int) + (9 + (p1.length : Int)) := by omega
          rw [e]
          exact H5.out.2.1
end Go.Proofs.Ytlepallialmceaa
