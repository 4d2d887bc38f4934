/- Texts: what two begin with alike; what is wrong with one behind another. -/
import Derived.Test.YtegpoghgddjmaaaMemB
import Derived.Deep.QuietTactic
import Derived.BigQuiet
import Derived.Deep.CutBlock
namespace Go.Proofs.Ytegpoghgddjmaaa
open Go.RowKit
set_option maxRecDepth 100000

/-- How many bytes two texts begin with alike. -/
def alikeS : List UInt8 → List UInt8 → Nat
  | x :: a, y :: b => if x = y then alikeS a b + 1 else 0
  | _, _ => 0
theorem alikeS_le : ∀ (a b : List UInt8), alikeS a b ≤ a.length ∧ alikeS a b ≤ b.length
  | [], _ => by simp [alikeS]
  | _ :: _, [] => by simp [alikeS]
  | x :: a, y :: b => by
    have := alikeS_le a b
    unfold alikeS
    split <;> simp <;> omega
theorem alikeS_stop : ∀ (a b : List UInt8) (k : Nat), k ≤ alikeS a b → (¬ k < a.length ∨ ¬ k < b.length ∨ ∃ x y, a[k]? = some x ∧ b[k]? = some y ∧ x ≠ y) → alikeS a b = k
  | [], _, k, h, _ => by simp [alikeS] at h ⊢; omega
  | _ :: _, [], k, h, _ => by simp [alikeS] at h ⊢; omega
  | x :: a, y :: b, k, h, hs => by
    unfold alikeS at h ⊢
    by_cases e : x = y
    · rw [if_pos e] at h ⊢
      cases k with
      | zero =>
        rcases hs with hs | hs | ⟨u, v, h1, h2, h3⟩
        · simp at hs
        · simp at hs
        · simp at h1 h2; exact absurd (h1.symm.trans (e.trans h2)) h3
      | succ k =>
        rw [alikeS_stop a b k (by omega) (by simpa using hs)]
    · rw [if_neg e] at h ⊢
      omega
theorem alikeS_more : ∀ (a b : List UInt8) (k : Nat) (x : UInt8), k ≤ alikeS a b → a[k]? = some x → b[k]? = some x → k + 1 ≤ alikeS a b
  | [], _, _, _, _, h, _ => by simp at h
  | _ :: _, [], _, _, _, _, h => by simp at h
  | u :: a, v :: b, k, x, h, h1, h2 => by
    unfold alikeS at h ⊢
    cases k with
    | zero =>
      simp at h1 h2
      rw [if_pos (h1.trans h2.symm)]
      omega
    | succ k =>
      by_cases e : u = v
      · rw [if_pos e] at h ⊢
        have := alikeS_more a b k x (by omega) (by simpa using h1) (by simpa using h2)
        omega
      · rw [if_neg e] at h; omega
theorem str_get {a : List UInt8} {k : Nat} {x : UInt8} (h : k < a.length) (hx : a[k]? = some x) : (({ data := a.toArray } : ByteArray)[k]'(by show k < a.toArray.size; simpa using h)) = x := by
  have e : a[k] = x := (List.getElem?_eq_some_iff.1 hx).2
  show a.toArray[k] = x
  simpa using e
theorem ndN {B : Nat} {w w' : World} (h : Below B w w') (q : Nat) : Below B w (w'.drewN q) := ⟨h.os, h.tape, h.output, h.size, h.block⟩
def followsS (i : Int) (a s : List UInt8) : Int := if 400 < s.length then 4 else if 0 < i ∧ (Op.bytesLess s a || s == a) = true then 9 else 0
set_option maxHeartbeats 2000000 in
theorem follows_any (i : Int) (a s : List UInt8) (w : World) (hb : s.length ≤ 9223372036854775807) :
    Calls Try.prog 87 #[.int .i64 i, S8 a, S8 s] w fun e w' => e = .returned (.int .i64 (followsS i a s)) ∧ w' = w := by
  by_cases h4 : 400 < s.length
  · have h4i : (400 : Int) < (s.length : Int) := by omega
    have hf := Lib.hid (show followsS i a s = 4 from if_pos h4)
    go_enter Try.func87, Try.ntmps87
    go_wp2_with fail
    go_ret
    exact ⟨by rw [hf.out]; rfl, rfl⟩
  have h4i : (s.length : Int) ≤ 400 := by omega
  by_cases h0 : 0 < i
  · cases hl : (Op.bytesLess s a || s == a) with
    | true =>
      have hf := Lib.hid (show followsS i a s = 9 by unfold followsS; rw [if_neg h4, if_pos ⟨h0, hl⟩])
      go_enter Try.func87, Try.ntmps87
      go_wp2_with fail
      all_goals (go_ret; exact ⟨by rw [hf.out]; rfl, rfl⟩)
    | false =>
      have hf := Lib.hid (show followsS i a s = 0 by unfold followsS; rw [if_neg h4, if_neg (fun h => by rw [hl] at h; cases h.2)])
      go_enter Try.func87, Try.ntmps87
      go_wp2_with fail
      all_goals (go_ret; exact ⟨by rw [hf.out]; rfl, rfl⟩)
  · have h0' : i ≤ 0 := by omega
    have hf := Lib.hid (show followsS i a s = 0 by unfold followsS; rw [if_neg h4, if_neg (fun h => h0 h.1)])
    go_enter Try.func87, Try.ntmps87
    go_wp2_with fail
    all_goals (go_ret; exact ⟨by rw [hf.out]; rfl, rfl⟩)
set_option maxHeartbeats 2000000 in
theorem alike_any (a b : List UInt8) (w : World) (ha : a.length ≤ 9223372036854775807) (_hb : b.length ≤ 9223372036854775807) :
    Calls Try.prog 98 #[S8 a, S8 b] w fun e w' => e = .returned (.int .i64 (alikeS a b : Nat)) ∧ Below w.heap.size w w' := by
  go_enter Try.func98, Try.ntmps98
  go_wp2_with fail
  go_loopw [5] (fun ix wr => ∃ k : Nat, ix = .int .i64 k ∧ k ≤ alikeS a b ∧ Hid (Below w.heap.size w wr)) (fun ix _ => a.length - (intOf ix).toNat)
  case atStart => exact ⟨0, rfl, Nat.zero_le _, nr w⟩
  case round =>
    obtain ⟨k, rfl, hk, hW⟩ := hrel
    have hle := alikeS_le a b
    by_cases h1 : k < a.length
    · have h1i : (k : Int) < (a.length : Int) := by omega
      by_cases h2 : k < b.length
      · have h2i : (k : Int) < (b.length : Int) := by omega
        obtain ⟨x, hx⟩ : ∃ x, a[k]? = some x := ⟨_, List.getElem?_eq_getElem h1⟩
        obtain ⟨y, hy⟩ : ∃ y, b[k]? = some y := ⟨_, List.getElem?_eq_getElem h2⟩
        have gx := str_get h1 hx
        have gy := str_get h2 hy
        have HX := Lib.hid (And.intro hx hy)
        clear hx hy
        go_upto_region 2 with fail
        by_cases e : x = y
        · subst e
          have hk1 := Lib.hid (alikeS_more a b k x hk HX.out.1 HX.out.2)
          clear hk
          go_quiet (fail)
          go_wp2_with fail
          exact ⟨⟨k + 1, by go_num, hk1.out, ndN hW.out _⟩, by simp [intOf]; omega⟩
        · have hxy : ((x.toNat : Int) == (y.toNat : Int)) = false := by
            rw [beq_eq_false_iff_ne]
            intro h
            exact e (UInt8.toNat_inj.1 (by omega))
          have hz := Lib.hid (alikeS_stop a b k hk (.inr (.inr ⟨x, y, HX.out.1, HX.out.2, e⟩)))
          go_quiet (fail)
          go_wp2_with fail
          go_ret
          exact ⟨by rw [hz.out]; rfl, ndN hW.out _⟩
      · have h2i : (b.length : Int) ≤ (k : Int) := by omega
        have hz := Lib.hid (alikeS_stop a b k hk (.inr (.inl h2)))
        go_upto_region 2 with fail
        go_quiet (fail)
        go_wp2_with fail
        go_ret
        exact ⟨by rw [hz.out]; rfl, ndN hW.out _⟩
    · have h1i : (a.length : Int) ≤ (k : Int) := by omega
      have hz := Lib.hid (alikeS_stop a b k hk (.inl h1))
      go_upto_region 2 with fail
      go_quiet (fail)
      go_wp2_with fail
      go_ret
      exact ⟨by rw [hz.out]; rfl, ndN hW.out _⟩
end Go.Proofs.Ytegpoghgddjmaaa
