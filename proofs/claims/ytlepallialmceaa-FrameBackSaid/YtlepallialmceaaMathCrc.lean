/- Plain mathematics of the check sum: one step of a sum is linear over xor and tells numbers apart. No program in sight. -/
namespace Go.Proofs.Ytlepallialmceaa.Crc

/-- One step of a sum. -/
def step (s : Nat) : Nat := if s % 2 = 1 then s / 2 ^^^ 2197175160 else s / 2
def steps : Nat → Nat → Nat
  | 0, s => s
  | k + 1, s => steps k (step s)
/-- A sum behind one more byte; behind more bytes. -/
def byte (s c : Nat) : Nat := steps 8 (s ^^^ c)
def run (s : Nat) (l : List Nat) : Nat := l.foldl byte s
def flip (s : Nat) : Nat := s ^^^ 4294967295
def more (s : Nat) (l : List Nat) : Nat := flip (run (flip s) l)
def join (a b : Nat) (n : Nat) : Nat := if n = 0 then a else steps (8 * n) a ^^^ b

theorem xor_lt {a b : Nat} (ha : a < 4294967296) (hb : b < 4294967296) : a ^^^ b < 4294967296 :=
  Nat.xor_lt_two_pow (n := 32) (by omega) (by omega)
theorem step_lt {s : Nat} (h : s < 4294967296) : step s < 4294967296 := by
  unfold step; split
  · exact xor_lt (by omega) (by omega)
  · omega
theorem steps_lt (k : Nat) : ∀ {s : Nat}, s < 4294967296 → steps k s < 4294967296 := by
  induction k with
  | zero => intro s h; exact h
  | succ k ih => intro s h; exact ih (step_lt h)
theorem xor_div (a b : Nat) : (a ^^^ b) / 2 = a / 2 ^^^ b / 2 := by
  apply Nat.eq_of_testBit_eq; intro i
  simp [Nat.testBit_div_two, Nat.testBit_xor]
theorem xor_mod (a b : Nat) : (a ^^^ b) % 2 = (a + b) % 2 := by
  have h : ((a ^^^ b) % 2 = 1) ↔ ¬ ((a % 2 = 1) ↔ (b % 2 = 1)) := Nat.xor_mod_two_eq_one
  by_cases ha : a % 2 = 1 <;> by_cases hb : b % 2 = 1
  · have : ¬ (a ^^^ b) % 2 = 1 := fun e => h.1 e ⟨fun _ => hb, fun _ => ha⟩
    omega
  · have : (a ^^^ b) % 2 = 1 := h.2 fun e => hb (e.1 ha)
    omega
  · have : (a ^^^ b) % 2 = 1 := h.2 fun e => ha (e.2 hb)
    omega
  · have : ¬ (a ^^^ b) % 2 = 1 := fun e => h.1 e ⟨fun x => absurd x ha, fun x => absurd x hb⟩
    omega
theorem step_xor (a b : Nat) : step (a ^^^ b) = step a ^^^ step b := by
  have h := xor_mod a b
  unfold step
  rw [xor_div]
  by_cases ha : a % 2 = 1 <;> by_cases hb : b % 2 = 1
  · rw [if_neg (by omega), if_pos ha, if_pos hb]
    rw [Nat.xor_assoc, Nat.xor_comm (b / 2) 2197175160, ← Nat.xor_assoc 2197175160 2197175160, Nat.xor_self, Nat.zero_xor]
  · rw [if_pos (by omega), if_pos ha, if_neg hb]
    rw [Nat.xor_assoc, Nat.xor_comm (b / 2), ← Nat.xor_assoc]
  · rw [if_pos (by omega), if_neg ha, if_pos hb, Nat.xor_assoc]
  · rw [if_neg (by omega), if_neg ha, if_neg hb]
theorem steps_xor (k : Nat) : ∀ a b : Nat, steps k (a ^^^ b) = steps k a ^^^ steps k b := by
  induction k with
  | zero => intro a b; rfl
  | succ k ih => intro a b; show steps k (step (a ^^^ b)) = _; rw [step_xor, ih]; rfl
theorem step_zero : step 0 = 0 := by decide
theorem steps_zero (k : Nat) : steps k 0 = 0 := by
  induction k with
  | zero => rfl
  | succ k ih => show steps k (step 0) = 0; rw [step_zero, ih]
theorem steps_add (m n : Nat) : ∀ s, steps (m + n) s = steps n (steps m s) := by
  induction m with
  | zero => intro s; rw [Nat.zero_add]; rfl
  | succ m ih => intro s; rw [Nat.succ_add]; show steps (m + n) (step s) = _; rw [ih]; rfl
theorem step_ne {d : Nat} (h : d < 4294967296) (h0 : step d = 0) : d = 0 := by
  unfold step at h0
  split at h0
  · have : d / 2 = 2197175160 := by
      have h1 : (d / 2 ^^^ 2197175160) ^^^ 2197175160 = 0 ^^^ 2197175160 := by rw [h0]
      rw [Nat.xor_assoc, Nat.xor_self, Nat.xor_zero, Nat.zero_xor] at h1
      exact h1
    omega
  · omega
theorem steps_ne (k : Nat) : ∀ {d : Nat}, d < 4294967296 → steps k d = 0 → d = 0 := by
  induction k with
  | zero => intro d _ h; exact h
  | succ k ih => intro d hd h; exact step_ne hd (ih (step_lt hd) h)
theorem xor_eq_zero {a b : Nat} (h : a ^^^ b = 0) : a = b := by
  have h1 : (a ^^^ b) ^^^ b = 0 ^^^ b := by rw [h]
  rw [Nat.xor_assoc, Nat.xor_self, Nat.xor_zero, Nat.zero_xor] at h1
  exact h1
theorem byte_lt {s c : Nat} (hs : s < 4294967296) (hc : c < 256) : byte s c < 4294967296 := steps_lt 8 (xor_lt hs (by omega))
theorem run_lt (l : List Nat) : ∀ {s : Nat}, s < 4294967296 → (∀ c ∈ l, c < 256) → run s l < 4294967296 := by
  induction l with
  | nil => intro s h _; exact h
  | cons c l ih => intro s h hl; exact ih (byte_lt h (hl c (by simp))) (fun x hx => hl x (by simp [hx]))
theorem byte_xor (s d c : Nat) : byte (s ^^^ d) c = byte s c ^^^ steps 8 d := by
  unfold byte
  rw [Nat.xor_assoc, Nat.xor_comm d c, ← Nat.xor_assoc, steps_xor]
/-- What a difference of two sums becomes behind the same bytes. -/
theorem run_xor (l : List Nat) : ∀ s d : Nat, run (s ^^^ d) l = run s l ^^^ steps (8 * l.length) d := by
  induction l with
  | nil => intro s d; rfl
  | cons c l ih =>
    intro s d
    show run (byte (s ^^^ d) c) l = run (byte s c) l ^^^ _
    rw [byte_xor, ih, List.length_cons, show 8 * (l.length + 1) = 8 + 8 * l.length by omega, steps_add]
theorem run_append (s : Nat) (a b : List Nat) : run s (a ++ b) = run (run s a) b := by unfold run; rw [List.foldl_append]
theorem xor_xor (a s : Nat) : s ^^^ a ^^^ a = s := by rw [Nat.xor_assoc, Nat.xor_self, Nat.xor_zero]
theorem flip_flip (s : Nat) : flip (flip s) = s := xor_xor 4294967295 s
theorem flip_lt {s : Nat} (h : s < 4294967296) : flip s < 4294967296 := by
  unfold flip
  exact xor_lt h (by decide)
theorem ones_xor (n s : Nat) (h : s < 2 ^ n) : s ^^^ (2 ^ n - 1) = 2 ^ n - (s + 1) := by
  apply Nat.eq_of_testBit_eq; intro i
  rw [Nat.testBit_xor, Nat.testBit_two_pow_sub_succ h, Nat.testBit_two_pow_sub_one]
  by_cases hi : i < n
  · simp [hi]
  · have : s.testBit i = false := Nat.testBit_lt_two_pow (Nat.lt_of_lt_of_le h (Nat.pow_le_pow_right (n := 2) (by omega) (show n ≤ i by omega)))
    simp [hi, this]
theorem flip_sub {s : Nat} (h : s < 4294967296) : flip s = 4294967295 - s := by
  have e := ones_xor 32 s h
  unfold flip
  have e1 : (2 : Nat) ^ 32 - 1 = 4294967295 := by decide
  have e2 : (2 : Nat) ^ 32 = 4294967296 := by decide
  rw [e1, e2] at e
  rw [e]; omega
theorem more_lt {s : Nat} {l : List Nat} (hs : s < 4294967296) (hl : ∀ c ∈ l, c < 256) : more s l < 4294967296 := flip_lt (run_lt l (flip_lt hs) hl)
theorem more_append (s : Nat) (a b : List Nat) : more (more s a) b = more s (a ++ b) := by
  unfold more; rw [flip_flip, run_append]
theorem join_more (a b : List Nat) : join (more 0 a) (more 0 b) b.length = more 0 (a ++ b) := by
  unfold join
  split
  · rename_i h
    rw [List.eq_nil_of_length_eq_zero h, List.append_nil]
  · unfold more
    rw [run_append]
    have h : ∀ t, t = flip 0 ^^^ flip t := by
      intro t
      unfold flip
      rw [Nat.zero_xor, Nat.xor_comm t, ← Nat.xor_assoc, Nat.xor_self, Nat.zero_xor]
    conv => rhs; rw [h (run (flip 0) a), run_xor]
    unfold flip
    rw [Nat.xor_comm (steps _ _), Nat.xor_assoc, Nat.xor_assoc, Nat.xor_comm 4294967295]
theorem join_assoc (a b c : Nat) {m n : Nat} (hm : 0 < m) (hn : 0 < n) : join (join a b m) c n = join a (join b c n) (m + n) := by
  unfold join
  rw [if_neg (by omega), if_neg (by omega), if_neg (by omega), if_neg (by omega), steps_xor, Nat.xor_assoc, show 8 * (m + n) = 8 * m + 8 * n by omega, steps_add]
/-- One byte turned, anywhere: another sum. -/
theorem more_tells (s : Nat) (a b : List Nat) {x y : Nat} (hx : x < 256) (hy : y < 256) (h : x ≠ y) : more s (a ++ x :: b) ≠ more s (a ++ y :: b) := by
  intro he
  unfold more at he
  have h1 : run (flip s) (a ++ x :: b) = run (flip s) (a ++ y :: b) := by
    have := congrArg flip he
    rwa [flip_flip, flip_flip] at this
  rw [run_append, run_append] at h1
  generalize run (flip s) a = t at h1
  have h2 : byte t x = byte t y ^^^ steps 8 (x ^^^ y) := by
    unfold byte
    rw [← steps_xor, Nat.xor_assoc, ← Nat.xor_assoc y, Nat.xor_comm y x, Nat.xor_assoc x y y, Nat.xor_self, Nat.xor_zero]
  have h3 : run (byte t y ^^^ steps 8 (x ^^^ y)) b = run (byte t y) b := by rw [← h2]; exact h1
  rw [run_xor] at h3
  have h4 : steps (8 * b.length) (steps 8 (x ^^^ y)) = 0 := by
    have := congrArg (run (byte t y) b ^^^ ·) h3
    simp only [← Nat.xor_assoc, Nat.xor_self, Nat.zero_xor] at this
    exact this
  have hlt : x ^^^ y < 4294967296 := xor_lt (by omega) (by omega)
  exact h (xor_eq_zero (steps_ne 8 hlt (steps_ne _ (steps_lt 8 hlt) h4)))

/-! ### Four bits at once -/
def nib (i : Nat) : Nat := steps 4 i
theorem step_even {s : Nat} (h : s % 2 = 0) : step s = s / 2 := by unfold step; rw [if_neg (by omega)]
theorem steps_shift (k : Nat) : ∀ h : Nat, steps k (h * 2 ^ k) = h := by
  induction k with
  | zero => intro h; simp [steps]
  | succ k ih =>
    intro h
    show steps k (step (h * 2 ^ (k + 1))) = h
    have e : h * 2 ^ (k + 1) = h * 2 ^ k * 2 := by rw [Nat.pow_succ, Nat.mul_assoc]
    rw [step_even (by omega), e, Nat.mul_div_cancel _ (by omega), ih]
theorem split_xor (s : Nat) : s = s / 16 * 2 ^ 4 ^^^ s % 16 := by
  apply Nat.eq_of_testBit_eq; intro i
  rw [Nat.testBit_xor, show (16 : Nat) = 2 ^ 4 by decide, Nat.testBit_mul_two_pow, Nat.testBit_mod_two_pow, Nat.testBit_div_two_pow]
  by_cases hi : i < 4
  · simp [hi, show ¬ 4 ≤ i by omega]
  · simp [hi, show 4 ≤ i by omega, show i - 4 + 4 = i by omega]
/-- Four steps by the table. -/
theorem nibble (s : Nat) : steps 4 s = s / 16 ^^^ nib (s % 16) := by
  conv => lhs; rw [split_xor s]
  rw [steps_xor, steps_shift]; rfl
theorem byte_nibbles (s c : Nat) : byte s c = steps 4 (steps 4 (s ^^^ c)) := steps_add 4 4 _

/-! ### A matrix: what so many steps make of each bit -/
/-- What a matrix of 32 rows makes of a number. -/
def apply (m : Nat → Nat) : Nat → Nat → Nat → Nat
  | 0, _, _ => 0
  | fuel + 1, i, v => (if v % 2 = 1 then m i else 0) ^^^ apply m fuel (i + 1) (v / 2)
theorem apply_steps (k : Nat) (m : Nat → Nat) : ∀ (fuel i v : Nat), (∀ j, j < fuel + i → m j = steps k (2 ^ j)) → v < 2 ^ fuel → apply m fuel i v = steps k (v * 2 ^ i) := by
  intro fuel
  induction fuel with
  | zero => intro i v _ hv; have : v = 0 := by simpa using hv
            subst this; simp [apply, steps_zero]
  | succ fuel ih =>
    intro i v hm hv
    have h1 := ih (i + 1) (v / 2) (fun j hj => hm j (by omega)) (by rw [Nat.pow_succ] at hv; omega)
    show (if v % 2 = 1 then m i else 0) ^^^ apply m fuel (i + 1) (v / 2) = _
    rw [h1]
    have hs : v * 2 ^ i = (if v % 2 = 1 then 2 ^ i else 0) ^^^ (v / 2 * 2 ^ (i + 1)) := by
      have hv2 : v = v / 2 * 2 ^ 1 ^^^ v % 2 := by
        apply Nat.eq_of_testBit_eq; intro j
        rw [Nat.testBit_xor, Nat.testBit_mul_two_pow]
        cases j with
        | zero => simp
        | succ j => 
          have : (v % 2).testBit (j + 1) = false := Nat.testBit_lt_two_pow (Nat.lt_of_lt_of_le (Nat.mod_lt _ (by omega)) (Nat.pow_le_pow_right (n := 2) (by omega) (show 1 ≤ j + 1 by omega)))
          rw [this, Bool.xor_false]
          simp [Nat.testBit_succ]
      conv => lhs; rw [hv2]
      rw [Nat.xor_comm]
      have hd : ∀ a b : Nat, (a ^^^ b) * 2 ^ i = a * 2 ^ i ^^^ b * 2 ^ i := by
        intro a b
        apply Nat.eq_of_testBit_eq; intro j
        simp only [Nat.testBit_xor, Nat.testBit_mul_two_pow]
        by_cases hj : i ≤ j <;> simp [hj]
      rw [hd]
      congr 1
      · by_cases h : v % 2 = 1
        · rw [h]; simp
        · rw [show v % 2 = 0 by omega]; simp
      · rw [Nat.mul_assoc, ← Nat.pow_add, Nat.add_comm 1 i]
    rw [hs, steps_xor]
    congr 1
    by_cases h : v % 2 = 1
    · rw [if_pos h, if_pos h, hm i (by omega)]
    · rw [if_neg h, if_neg h, steps_zero]
end Go.Proofs.Ytlepallialmceaa.Crc
