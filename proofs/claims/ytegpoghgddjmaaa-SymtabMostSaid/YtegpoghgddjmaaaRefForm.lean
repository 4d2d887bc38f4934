/- The walks of the document's Num, Fix, Text: the forms. -/
import Derived.Test.YtegpoghgddjmaaaRefNum
import Derived.Test.YtegpoghgddjmaaaWriter3
namespace Go.Proofs.Ytegpoghgddjmaaa
open Go.RowKit
set_option maxRecDepth 100000

/-- The first byte's leading ones: behind j of them. -/
def fst8 (j : Nat) : Nat := 256 - 2 ^ (8 - j)
theorem fst8_step : ∀ j : Fin 8, fst8 j.val + 128 / pw j.val = fst8 (j.val + 1) ∧ fst8 j.val ≤ 255 ∧ 1 ≤ pw j.val ∧ pw j.val ≤ 128 := by decide +kernel
theorem fst8_le : ∀ j : Fin 9, fst8 j.val ≤ 255 := by decide +kernel

def FormPost (l : List UInt8) (w : World) (e : Ending) (w' : World) : Prop :=
  ∃ A c, e = .returned (.slice A l.length c) ∧ Own w' w.heap.size (.slice A l.length c) l ∧ Below w.heap.size w w'

def RN1 (v : Nat) (w wr : World) (i : Nat) (o : Value) : Prop := Own wr w.heap.size o (tail8 v i) ∧ Below w.heap.size w wr
set_option maxHeartbeats 4000000 in
theorem rnumform_any (v : Nat) (w : World) (hv : v < 18446744073709551616) : Calls Try.prog 22 #[.int .u64 v] w (FormPost (num v) w) := by
  have h8 := oth_le v
  go_enter Try.func22, Try.ntmps22
  go_wp2_with fail
  refine (rothers_any v w).mono ?_
  rintro e w' ⟨rfl, rfl⟩
  obtain ⟨K, hK⟩ : ∃ K, oth v = K := ⟨_, rfl⟩
  rw [hK] at h8 ⊢
  have HK := Lib.hid hK
  clear hK
  have h0 : Hid (RN1 v w' w' 0 (.slice none 0 0)) := ⟨Own.nil_ _ _, nr _⟩
  go_wp2_with fail
  go_loopg [0, 4, 5] K (fun k x o i wr => k ≤ K ∧ i = .int .i64 ((K - k : Nat) : Int) ∧ x = .int .u64 ((v / 256 ^ (K - k) : Nat) : Int) ∧ Hid (RN1 v w' wr (K - k) o))
  case atStart => exact ⟨Nat.le_refl _, by simp, by simp, by rw [Nat.sub_self]; exact h0⟩
  case round =>
    obtain ⟨hk, rfl, rfl, hR⟩ := hrel
    obtain ⟨i, hi⟩ : ∃ i, K - gk = i := ⟨_, rfl⟩
    rw [hi] at hR ⊢
    obtain ⟨ho, hb⟩ := hR.out
    obtain ⟨A1, c1, rfl, hby⟩ := Own.form ho
    obtain ⟨m, hm⟩ : ∃ m, tail8 v i = m := ⟨_, rfl⟩
    have hml : m.length = i := by rw [← hm]; exact tail8_length v i
    rw [hm] at ho hby ⊢
    have Hm := Lib.hid (And.intro hm hml)
    by_cases hk0 : gk = 0
    · obtain rfl : i = K := by omega
      have hx8 : i < 8 → v / 256 ^ i < 2 ^ (7 - i) := fun h => by have := oth_fits (v := v) (by rw [HK.out]; exact h); rwa [HK.out] at this
      have hlead : lead v = fst8 i + (if i < 8 then v / 256 ^ i else 0) := by unfold lead fst8; rw [HK.out]
      have Hl := Lib.hid (And.intro hlead (show num v = low8 (lead v) :: m by unfold num; rw [HK.out, hm]))
      rw [hml]
      clear hm hR hlead hml
      generalize v / 256 ^ i = x at hx8 Hl ⊢
      have hx128 : i < 8 → x < 128 := fun h => Nat.lt_of_lt_of_le (hx8 h) (by have : (2 : Nat) ^ (7 - i) ≤ 2 ^ 7 := Nat.pow_le_pow_right (by decide) (by omega); simpa using this)
      clear hx8
      have HO := Lib.hid (And.intro ho hb)
      clear ho hb
      go_wp2_with fail
      go_loop [6, 7] (fun f p => ∃ j : Nat, j ≤ i ∧ p = .int .i64 j ∧ f = .int .i64 (fst8 j : Nat)) (fun _ p => i - (intOf p).toNat)
      case atStart => exact ⟨0, by omega, rfl, rfl⟩
      case round =>
        obtain ⟨j, hj, rfl, rfl⟩ := hrel
        by_cases hje : j = i
        · subst hje
          have hf := fst8_le ⟨j, by omega⟩
          simp only at hf
          have hz0 : (low8 (lead v)).toNat = lead v % 256 := low8_toNat _
          obtain ⟨z, hz⟩ : ∃ z, low8 (lead v) = z := ⟨_, rfl⟩
          have Hz := Lib.hid hz
          by_cases hj8 : j < 8
          all_goals (
            have hz2 : ((fst8 j : Int) + (if j < 8 then (x : Int) else 0)) % 256 = (z.toNat : Int) := by
              rw [← hz, hz0, Hl.out.1]
              first
                | (rw [if_pos hj8, if_pos hj8]; omega)
                | (rw [if_neg hj8, if_neg hj8]; omega)
            first
              | (rw [if_pos hj8] at hz2
                 have hx := hx128 hj8)
              | (rw [if_neg hj8, Int.add_zero] at hz2)
            clear hz hz0 hx128
            generalize fst8 j = F at hf hz2 ⊢
            try (have hz3 : (F : Int) = (z.toNat : Int) := by omega)
            go_wp2_with (at_builtin; go_loud (refine wpList_append_bytes_form rfl (.tmp 42) (.tmp 43) rfl wr.heap.size (.slice (some ⟨wr.heap.size, 0, none⟩) 1 1) [z] rfl (Own.lit _ _ (by simp) _ [z] rfl (by simp)) _ A1 c1 m (congrArg (fun q => Value.slice A1 q c1) Hm.out.2.symm) (hby.below (na (nr wr) _)) (by have := Hm.out.2; simp; omega) (by simp) ?_); intro A2 c2 w2 ho2 hg2 hat2)
            go_ret
            refine ⟨A2, c2, by rw [Hl.out.2, Hz.out]; rfl, by rw [Hl.out.2, Hz.out]; exact ho2.rebase HO.out.2.size, ?_⟩
            exact (HO.out.2.alloc HO.out.2.size _).grown hg2 (by have := HO.out.2.size; simp; omega) (fun q e => by simp [Value.ownBlock] at e; have := HO.out.2.size; omega))
        · obtain ⟨hf1, hf2, hf3, hf4⟩ := fst8_step ⟨j, by omega⟩
          simp only at hf1 hf2 hf3 hf4
          go_wp2_with fail
          refine (power_any j _ (by omega)).mono ?_
          rintro e w' ⟨rfl, rfl⟩
          have Hf := Lib.hid hf1
          clear hf1
          have hq2 : (128 : Int) / (pw j : Int) ≤ 128 := by
            have : ((128 / pw j : Nat) : Int) = (128 : Int) / (pw j : Int) := by simp
            have h2 : 128 / pw j ≤ 128 := Nat.div_le_self _ _
            omega
          have hq3 : (0 : Int) ≤ (128 : Int) / (pw j : Int) := Int.ediv_nonneg (by decide) (by omega)
          go_wp2_with fail
          refine ⟨⟨j + 1, by omega, ?_, ?_⟩, ?_⟩
          · go_num
          · rw [← Hf.out]; congr 1
          · simp [intOf]; omega
    · have hiK : i < K := by omega
      have hlt : (i : Int) < (K : Int) := by omega
      have hxv : v / 256 ^ i < 18446744073709551616 := Nat.lt_of_le_of_lt (Nat.div_le_self _ _) hv
      have Hs := Lib.hid (show v / 256 ^ i / 256 = v / 256 ^ (i + 1) ∧ low8 (v / 256 ^ i) :: m = tail8 v (i + 1) by
        constructor
        · rw [Nat.pow_succ, Nat.div_div_eq_div_mul]
        · rw [← hm]; rfl)
      clear hm hR
      obtain ⟨z, hz⟩ : ∃ z, low8 (v / 256 ^ i) = z := ⟨_, rfl⟩
      have hz2 : ((v / 256 ^ i : Nat) : Int) % 256 = (z.toNat : Int) := by rw [← hz, low8_toNat]; omega
      rw [hz] at Hs
      clear hz
      generalize v / 256 ^ i = x at hxv hz2 Hs ⊢
      have HO := Lib.hid (And.intro ho hb)
      clear ho hb
      go_wp2_with (at_builtin; refine wpList_append_bytes_form rfl (.tmp 18) (.tmp 19) rfl wr.heap.size (.slice (some ⟨wr.heap.size, 0, none⟩) 1 1) [z] rfl (Own.lit _ _ (by simp) _ [z] rfl (by simp)) _ A1 c1 m rfl (hby.below (na (nr wr) _)) (by simp; omega) (by simp) ?_
                   intro A2 c2 w2 ho2 hg2 hat2)
      have hbn : Below w'.heap.size w' w2 := (HO.out.2.alloc HO.out.2.size _).grown hg2 (by have := HO.out.2.size; simp; omega) (fun q e => by simp [Value.ownBlock] at e; have := HO.out.2.size; omega)
      have H2 := Lib.hid (And.intro (ho2.rebase HO.out.2.size) hbn)
      clear ho2 hg2 hat2 hbn
      have hgi : K - (gk - 1) = i + 1 := by omega
      go_roundg (gk - 1)
      case measure => omega
      case rel =>
        rw [hgi]
        refine ⟨by omega, by congr 1, by rw [← Hs.out.1]; congr 1, ?_⟩
        unfold Hid RN1
        rw [← Hs.out.2]
        have h2 := H2.out
        rw [show ([z] ++ m).length = i + 1 by rw [List.length_append, Hm.out.2, Nat.add_comm]; rfl] at h2
        exact h2

def RF1 (v : Nat) (w wr : World) (i : Nat) (o : Value) : Prop := Own wr w.heap.size o (leb v i) ∧ Below w.heap.size w wr
set_option maxHeartbeats 4000000 in
theorem rfixform_any (v : Nat) (w : World) (hv : v < 18446744073709551616) : Calls Try.prog 25 #[.int .u64 v] w (FormPost (leb v 8) w) := by
  have h0 : Hid (RF1 v w w 0 (.slice none 0 0)) := ⟨Own.nil_ _ _, nr _⟩
  go_enter Try.func25, Try.ntmps25
  go_wp2_with fail
  go_loopg [0, 3, 4] 8 (fun k x o i wr => k ≤ 8 ∧ i = .int .i64 ((8 - k : Nat) : Int) ∧ x = .int .u64 ((v / 256 ^ (8 - k) : Nat) : Int) ∧ Hid (RF1 v w wr (8 - k) o))
  case atStart => exact ⟨Nat.le_refl _, by simp, by simp, h0⟩
  case round =>
    obtain ⟨hk, rfl, rfl, hR⟩ := hrel
    obtain ⟨i, hi⟩ : ∃ i, 8 - gk = i := ⟨_, rfl⟩
    rw [hi] at hR ⊢
    obtain ⟨ho, hb⟩ := hR.out
    obtain ⟨A1, c1, rfl, hby⟩ := Own.form ho
    have hml := leb_length v i
    by_cases hk0 : gk = 0
    · obtain rfl : i = 8 := by omega
      have HO := Lib.hid (And.intro ho hb)
      clear ho hb hR hby
      rw [hml]
      go_wp2_with fail
      go_ret
      refine ⟨A1, c1, by rw [hml]; rfl, HO.out.1, HO.out.2⟩
    · have hi8 : i < 8 := by omega
      have hxv : v / 256 ^ i < 18446744073709551616 := Nat.lt_of_le_of_lt (Nat.div_le_self _ _) hv
      obtain ⟨z, hz⟩ : ∃ z, low8 (v / 256 ^ i) = z := ⟨_, rfl⟩
      have hz2 : ((v / 256 ^ i : Nat) : Int) % 256 = (z.toNat : Int) := by rw [← hz, low8_toNat]; omega
      obtain ⟨m, hm⟩ : ∃ m, leb v i = m := ⟨_, rfl⟩
      have Hs := Lib.hid (show v / 256 ^ i / 256 = v / 256 ^ (i + 1) ∧ leb v (i + 1) = m ++ [z] by
        constructor
        · rw [Nat.pow_succ, Nat.div_div_eq_div_mul]
        · rw [← hm, ← hz]; rfl)
      rw [hm] at ho hby hml ⊢
      have Hm := Lib.hid hml
      rw [hml]
      clear hz hm hml hR
      generalize v / 256 ^ i = x at hxv hz2 Hs ⊢
      have HO := Lib.hid (And.intro ho hb)
      clear ho hb
      have hbB : Bytes (wr.alloc (.cells #[B8 z] 5)) (wr.alloc (.cells #[B8 z] 5)).heap.size (some ⟨wr.heap.size, 0, none⟩) [z] := Bytes.new wr _ _ _ _ rfl
      go_wp2_with (at_builtin; go_loud (refine wpList_append_bytes_form rfl (.tmp 9) (.tmp 13) rfl w.heap.size (.slice A1 i c1) m rfl (by have := HO.out.1.alloc (.cells #[B8 z] 5); rwa [Hm.out] at this) _ (some ⟨wr.heap.size, 0, none⟩) 1 [z] rfl hbB (by have := Hm.out; simp; omega) (by have := HO.out.2.size; simp; omega) ?_)
                   intro A2 c2 w2 ho2 hg2 hat2)
      have hbn : Below w.heap.size w w2 := (HO.out.2.alloc HO.out.2.size _).grown hg2 (by have := HO.out.2.size; simp; omega) (fun q e => (World.ownsRow.lt (HO.out.1.alloc (.cells #[B8 z] 5)) q (by rw [Hm.out]; exact e)).1)
      rw [show (m ++ [z]).length = m.length + 1 by simp] at ho2
      have H2 := Lib.hid (And.intro ho2 hbn)
      clear ho2 hg2 hat2 hbn
      have hgi : 8 - (gk - 1) = i + 1 := by omega
      go_roundg (gk - 1)
      case measure => omega
      case rel =>
        rw [hgi]
        refine ⟨by omega, by congr 1, by rw [← Hs.out.1]; congr 1, ?_⟩
        unfold Hid RF1
        rw [Hs.out.2]
        exact H2.out

set_option maxHeartbeats 1000000 in
theorem rtextform_any (m : List UInt8) (w : World) (hm : m.length ≤ 549755813888) : Calls Try.prog 27 #[S8 m] w (FormPost (num m.length ++ m) w) := by
  go_enter Try.func27, Try.ntmps27
  go_wp2_with fail
  refine (rnumform_any m.length w (by omega)).mono ?_
  rintro e w1 ⟨A1, c1, rfl, ho, hb⟩
  have hl := num_length m.length
  generalize num m.length = L at *
  have HO := Lib.hid (And.intro ho hb)
  clear ho hb
  go_wp2_with (at_builtin; go_loud (refine wpList_append_str rfl (.tmp 6) (.tmp 7) rfl w.heap.size (.slice A1 L.length c1) L rfl HO.out.1 m rfl (by omega) HO.out.2.size ?_)
               intro A2 c2 w2 ho2 hg2 hat2)
  go_ret
  refine ⟨A2, c2, by rw [List.length_append]; rfl, ho2, HO.out.2.grown hg2 HO.out.2.size (fun q e => (World.ownsRow.lt HO.out.1 q e).1)⟩
end Go.Proofs.Ytegpoghgddjmaaa
