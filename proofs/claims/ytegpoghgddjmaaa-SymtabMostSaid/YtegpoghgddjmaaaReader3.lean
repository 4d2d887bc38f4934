/- The walks of pack.Reader: Text, Fix. -/
import Derived.Test.YtegpoghgddjmaaaReader2
namespace Go.Proofs.Ytegpoghgddjmaaa
open Go.RowKit
set_option maxRecDepth 100000

theorem rawS_err {l : List UInt8} {at_ : Nat} {e n : Int} (h : (rawS l at_ e n).2.2 ≠ 0) : (rawS l at_ e n).1 = [] := by
  unfold rawS at h ⊢
  split
  · rfl
  · split
    · rfl
    · split
      · rfl
      · next h1 h2 h3 => rw [if_neg h1, if_neg h2, if_neg h3] at h; exact absurd rfl h
/-- What Text hands. -/
def textS (l : List UInt8) (at_ : Nat) (e most : Int) : List UInt8 × Nat × Int :=
  ((rawS l (countS l at_ e most).2.1 (countS l at_ e most).2.2 ((countS l at_ e most).1 : Nat)).1,
   (if (rawS l (countS l at_ e most).2.1 (countS l at_ e most).2.2 ((countS l at_ e most).1 : Nat)).2.2 ≠ 0 then at_ else (rawS l (countS l at_ e most).2.1 (countS l at_ e most).2.2 ((countS l at_ e most).1 : Nat)).2.1),
   (rawS l (countS l at_ e most).2.1 (countS l at_ e most).2.2 ((countS l at_ e most).1 : Nat)).2.2)
set_option maxHeartbeats 2000000 in
theorem rtext_any (g : Nat) (A : Option Addr) (c : Nat) (l : List UInt8) (at_ : Nat) (e most : Int) (w : World) (hR : OwnR w g A c l at_ e) (hl : l.length ≤ 140737488355328) (hm0 : -9223372036854775808 ≤ most) (hm : most ≤ 9223372036854775807) :
    Calls Try.prog 55 #[.pointer (some ⟨g, 0, none⟩), .int .i64 most] w fun e' w' => e' = .returned (S8 (textS l at_ e most).1) ∧ OwnR w' g A c l (textS l at_ e most).2.1 (textS l at_ e most).2.2 ∧ Turn g w w' := by
  have hcl := countS_le l at_ e most hm
  have hle := hR.at_le
  obtain ⟨c0, c1, c2, f1, f2, lt, hb, hcap, _⟩ := id hR
  go_enter Try.func55, Try.ntmps55
  go_wp2_with fail
  refine (rcount_any g A c l at_ e most w hR hl hm0 hm).mono ?_
  rintro e' w1 ⟨rfl, h1, h2⟩
  clear c0 c1 c2 f1 f2 lt hb hcap hR
  obtain ⟨⟨v, a1, k⟩, hs⟩ : ∃ r, countS l at_ e most = r := ⟨_, rfl⟩
  rw [hs] at h1 hcl ⊢
  simp only at h1 hcl ⊢
  have H := Lib.hid (And.intro h1 h2)
  have Hs := Lib.hid hs
  clear hs h1 h2
  go_wp2_with fail
  refine (rraw_any g A c l a1 k (v : Nat) w1 H.out.1 hl (by omega) (by omega)).mono ?_
  rintro e' w2 ⟨A2, c2, rfl, hby, hR2, hT2⟩
  have Hr := Lib.hid (rawS_err (l := l) (at_ := a1) (e := k) (n := (v : Nat)))
  obtain ⟨⟨B, a2, k2⟩, hs⟩ : ∃ r, rawS l a1 k (v : Nat) = r := ⟨_, rfl⟩
  rw [hs] at hby hR2 Hr ⊢
  simp only at hby hR2 Hr ⊢
  have Hs2 := Lib.hid hs
  clear hs
  have hT := H.out.2.turn.trans hT2
  have d1 := hR2.c1
  have d2 := hR2.c2
  have f1 := hR2.f1
  have r1 := fun W => run_str W 0 A2 0 c2 [] (Bytes.nil_ _) rfl
  have r2 := run_str w2 _ A2 B.length c2 B hby rfl
  have H2 := Lib.hid (And.intro hR2 hT)
  clear H hby hR2 hT2 hT
  by_cases hk : k2 = 0
  · subst hk
    go_wp2_with fail
    go_ret
    have ht : textS l at_ e most = (B, a2, 0) := by unfold textS; rw [Hs.out]; simp only; rw [Hs2.out, if_neg (by simp)]
    rw [ht]
    exact ⟨rfl, H2.out⟩
  · have hB := Hr.out hk
    subst hB
    have hkb : (k2 != 0) = true := by rw [bne_iff_ne]; exact hk
    have Hk := Lib.hid hk
    clear hk
    go_wp2_with fail
    go_ret
    have ht : textS l at_ e most = ([], at_, k2) := by unfold textS; rw [Hs.out]; simp only; rw [Hs2.out, if_pos Hk.out]
    rw [ht]
    exact ⟨rfl, H2.out.1.step _ _ rfl hle, H2.out.2.trans ((Only.refl g w2).setCell 1 (.int .i64 at_)).turn⟩

/-- The number of bytes, the lowest first. -/
def leNum : List UInt8 → Nat
  | [] => 0
  | x :: l => x.toNat + 256 * leNum l
theorem leNum_lt (l : List UInt8) : leNum l < 256 ^ l.length := by
  induction l with
  | nil => simp [leNum]
  | cons x l ih =>
    have hx := x.toNat_lt
    show x.toNat + 256 * leNum l < 256 ^ (l.length + 1)
    rw [Nat.pow_succ]
    omega
theorem leNum_append (l m : List UInt8) : leNum (l ++ m) = leNum l + 256 ^ l.length * leNum m := by
  induction l with
  | nil => simp [leNum]
  | cons x l ih =>
    show x.toNat + 256 * leNum (l ++ m) = x.toNat + 256 * leNum l + 256 ^ (l.length + 1) * leNum m
    rw [ih, Nat.pow_succ, Nat.mul_add, Nat.add_assoc, ← Nat.mul_assoc, Nat.mul_comm 256 (256 ^ l.length)]
theorem leNum_leb (v k : Nat) : leNum (leb v k) = v % 256 ^ k := by
  induction k with
  | zero => simp [leb, leNum, Nat.mod_one]
  | succ k ih =>
    show leNum (leb v k ++ [low8 (v / 256 ^ k)]) = _
    rw [leNum_append, ih, leb_length]
    show v % 256 ^ k + 256 ^ k * ((low8 (v / 256 ^ k)).toNat + 256 * 0) = _
    rw [low8_toNat, Nat.pow_succ, Nat.mod_mul, Nat.mul_zero, Nat.add_zero]
theorem shl_byte (x j : Nat) (hx : x < 256) (hj : j < 8) : IntKind.u64.wrap ((x : Int) * 2 ^ (8 * j)) = ((x * 256 ^ j : Nat) : Int) := by
  have h : j = 0 ∨ j = 1 ∨ j = 2 ∨ j = 3 ∨ j = 4 ∨ j = 5 ∨ j = 6 ∨ j = 7 := by omega
  have e : ∀ z : Int, IntKind.u64.wrap z = z % 18446744073709551616 := fun z => by simp [IntKind.wrap, IntKind.bits, IntKind.signed]
  rw [e]
  rcases h with rfl | rfl | rfl | rfl | rfl | rfl | rfl | rfl
  all_goals simp only [Nat.reduceMul, Nat.reducePow, Int.reducePow]
  all_goals omega
theorem or_high (v x j : Nat) (hv : v < 256 ^ j) (hx : x < 256) (hj : j < 8) : bits .or .u64 (v : Int) ((x * 256 ^ j : Nat) : Int) = ((v + 256 ^ j * x : Nat) : Int) := by
  have hp : (256 : Nat) ^ j ≤ 256 ^ 7 := Nat.pow_le_pow_right (by decide) (by omega)
  have hm : x * 256 ^ j ≤ 255 * 256 ^ 7 := Nat.mul_le_mul (by omega) hp
  simp only [Nat.reducePow] at hp hm
  have h2 : (256 : Nat) ^ j = 2 ^ (8 * j) := by rw [Nat.pow_mul]
  have := u64_or_nat (x * 256 ^ j) v (by omega) (by omega)
  rw [nat_join (8 * j) (x * 256 ^ j) v (by rw [h2]; exact Nat.mul_mod_left _ _) (by rw [← h2]; exact hv)] at this
  have hc : bits .or .u64 (v : Int) ((x * 256 ^ j : Nat) : Int) = bits .or .u64 ((x * 256 ^ j : Nat) : Int) (v : Int) := by
    rw [u64_or_nat _ _ (by omega) (by omega), u64_or_nat _ _ (by omega) (by omega), Nat.or_comm]
  rw [hc, this, Nat.add_comm, Nat.mul_comm]
set_option maxHeartbeats 2000000 in
theorem rfix_any (g : Nat) (A : Option Addr) (c : Nat) (l : List UInt8) (at_ : Nat) (e : Int) (w : World) (hR : OwnR w g A c l at_ e) (hl : l.length ≤ 140737488355328) :
    Calls Try.prog 54 #[.pointer (some ⟨g, 0, none⟩)] w fun e' w' => e' = .returned (.int .u64 (leNum (rawS l at_ e 8).1 : Nat)) ∧ OwnR w' g A c l (rawS l at_ e 8).2.1 (rawS l at_ e 8).2.2 ∧ Turn g w w' := by
  have h8 : (rawS l at_ e 8).1.length ≤ 8 := by
    unfold rawS
    repeat' split
    all_goals simp
    all_goals omega
  go_enter Try.func54, Try.ntmps54
  go_wp2_with fail
  refine (rraw_any g A c l at_ e 8 w hR hl (by decide) (by decide)).mono ?_
  rintro e' w2 ⟨A2, c2, rfl, hby, hR2, hT2⟩
  have H2 := Lib.hid (And.intro hR2 hT2)
  clear hR2 hT2 hR
  obtain ⟨B, hB⟩ : ∃ B, (rawS l at_ e 8).1 = B := ⟨_, rfl⟩
  rw [hB] at hby h8 ⊢
  have HB := Lib.hid hB
  clear hB
  have HY := Lib.hid hby
  clear hby
  go_wp2_with fail
  go_loop [3, 9] (fun v i => ∃ j : Nat, j ≤ B.length ∧ i = .int .i64 j ∧ v = .int .u64 (leNum (B.take j) : Nat)) (fun _ i => B.length - (intOf i).toNat)
  case atStart => exact ⟨0, by omega, rfl, rfl⟩
  case round =>
    obtain ⟨j, hj, rfl, rfl⟩ := hrel
    by_cases hje : j = B.length
    · have ht : B.take j = B := List.take_of_length_le (by omega)
      rw [ht]
      subst hje
      clear ht
      go_wp2_with fail
      go_ret
      rw [HB.out]
      exact ⟨rfl, H2.out⟩
    · obtain ⟨b, off, x, rfl, hbg, hx, hcell⟩ := HY.out.at_ (k := j) (by omega)
      have hlt := leNum_lt (B.take j)
      rw [List.length_take, Nat.min_eq_left hj] at hlt
      have Hn : Hid (leNum (B.take (j + 1)) = leNum (B.take j) + 256 ^ j * x.toNat) := by
        unfold Hid
        rw [take_one_more hx, leNum_append, List.length_take, Nat.min_eq_left hj]
        show _ + 256 ^ j * (x.toNat + 256 * 0) = _
        rw [Nat.mul_zero, Nat.add_zero]
      have hxl : x.toNat < 256 := x.toNat_lt
      have hs := shl_byte x.toNat j hxl (by omega)
      have ho := or_high (leNum (B.take j)) x.toNat j hlt hxl (by omega)
      generalize leNum (B.take j) = V at *
      have Hs := Lib.hid hs
      have Ho := Lib.hid ho
      clear hs ho hx hlt
      go_wp2_with fail
      exact ⟨⟨j + 1, by omega, by go_num, by rw [Hs.out, Ho.out, Hn.out]⟩, by simp [intOf]; omega⟩
end Go.Proofs.Ytegpoghgddjmaaa
